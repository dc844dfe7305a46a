/- Merged: Ga, Pfew, Pd, Gd, Pv1, Pv3, Pv1b, Pv2, Pv2b, Pv4, Pv5, Pv6. -/
import Derived.Test.YtghilkcphindjaaGreatM3SymbolicLayout
set_option linter.unusedSectionVars false
set_option linter.unusedVariables false
set_option linter.unusedSimpArgs false
set_option linter.defProp false
noncomputable section
set_option maxRecDepth 100000
namespace Go.Proofs.YtghilkcphindjaaGreat
open Go Go.Iv
open Go.IntKind (i64 u64)
abbrev E47 : Type := Int
def d47 : Td 0 E47 := .c [] [4] (.r 0 0 (ec 4 (qi .i64) en) sn (fun z => z.1.1) (fun x => ((x, ()), (()))) fun _ => rfl)
def A47 := (lc (qg 106) (lc (qi .i64) ln))
def x47 (M : GTerm → Int → Option E47) : Orc → Orc := eL Tryz.prog 47 false A47 d47 (fun g => M g.1 g.2.1)
def H47 (M : GTerm → Int → Option E47) : Prop := HL Tryz.prog 47 A47 d47 (fun g => M g.1 g.2.1)
theorem x47_ok {M : GTerm → Int → Option E47} (hM : H47 M) {F : Orc} (h : OrcG Tryz.prog F) : OrcG Tryz.prog (x47 M F) := eL_ok (sc := scU) scU_ok hM ⟨_, Tryz.func47, by kernel_rfl, by kernel_rfl⟩ (fun _ => by kernel_rfl) (fun _ => by kernel_rfl) h
def F47 (M47 : GTerm → Int → Option E47) : Orc := (x47 M47 or0)
theorem F47_ok {M47} (h47 : H47 M47) : OrcG Tryz.prog (F47 M47) := (x47_ok h47 or0_g)
structure L47_0 where
 t1 : Int
 t5 : Int
 b0 : GTerm
def d47_0 : Td 0 L47_0 := .c [] [1, 2, 5] (.r 0 1 (ec 1 (qi .i64) (ec 2 (qp 0 0) (ec 5 (qi .i64) en))) (sb 0 106 (lg 106) sn) (fun z => ⟨z.1.1, z.1.2.2.1, z.2.1⟩) (fun x => ((x.t1, (), x.t5, ()), (x.b0, ()))) fun _ => rfl)
def n47_0 (M47 : GTerm → Int → Option E47) (p : L47_0) : Option (Option L47_0) :=
 match bif decide (p.t5 < (↑p.b0.fKids.length : Int)) then some (decide (0 ≤ p.t1)) else some (false) with | none => none | some r1 => bif r1 then if (0 : Int) ≤ p.t5 ∧ p.t5 < (↑p.b0.fKids.length : Int) then match M47 (GTerm.mk p.b0.fKids[p.t5.toNat]!.fOp p.b0.fKids[p.t5.toNat]!.fN p.b0.fKids[p.t5.toNat]!.fKids) p.t1 with | none => none | some r2 => some (some (L47_0.mk r2 (i64.wrap (p.t5 + 1)) (GTerm.mk p.b0.fOp p.b0.fN p.b0.fKids))) else none else some (none)
def g47_0 (M47 : GTerm → Int → Option E47) : An := (.two (.two (.rb [] 16) .no) .no)
theorem q47_0 (M47 : GTerm → Int → Option E47) (p : L47_0) : execA Tryz.prog (F47 M47) Tryz.f47.ntmps 300 (loopAt Tryz.f47 0) (g47_0 M47) (Option L47_0) (d47_0.pat p) (kOn d47_0.rd) = n47_0 M47 p := by kernel_rfl
def a47_0 (M47 : GTerm → Int → Option E47) : L47_0 → Option L47_0 := advG (n47_0 M47)
def an47 (M47 : GTerm → Int → Option E47) : An := (.two .no (.two .no (.two (.two .no (d47_0.lp (a47_0 M47) (g47_0 M47))) .no)))
theorem pu47 {M47} : ∀ f ∈ ([] : List Nat), PureF (F47 M47) f := ob_nil
theorem fa47 (M47 : GTerm → Int → Option E47) : FnAn Tryz.prog (F47 M47) 0 300 47 (an47 M47) := fnAn_of (l := [(loopAt Tryz.f47 0, (d47_0.lp (a47_0 M47) (g47_0 M47))), (.skip, (.rb [] 16))]) Tryz.func47 (bodyOf_eq (by kernel_rfl)) (by kernel_rfl) (ob_cons ⟨d47_0.ok _, advG_ok (q47_0 M47)⟩ (ob_cons pu47 ob_nil))
def s47 (M47 : GTerm → Int → Option E47) (a0 : GTerm) (a1 : Int) : Option E47 :=
 match a47_0 M47 (L47_0.mk (i64.wrap (a1 - 1)) (0) (GTerm.mk a0.fOp a0.fN a0.fKids)) with | none => none | some r3 => match bif decide (r3.t5 < (↑r3.b0.fKids.length : Int)) then some (decide (0 ≤ r3.t1)) else some (false) with | none => none | some r4 => bif r4 then if (0 : Int) ≤ r3.t5 ∧ r3.t5 < (↑r3.b0.fKids.length : Int) then match M47 (GTerm.mk r3.b0.fKids[r3.t5.toNat]!.fOp r3.b0.fKids[r3.t5.toNat]!.fN r3.b0.fKids[r3.t5.toNat]!.fKids) r3.t1 with | none => none | some r5 => none else none else some (r3.t1)
theorem c47 (M47 : GTerm → Int → Option E47) (a0 : GTerm) (a1 : Int) : callR Tryz.prog (F47 M47) 300 (an47 M47) 47 (A47.c (a0, a1, ())) [] 0 d47.rd = s47 M47 a0 a1 := by kernel_rfl
def mm47 : Nat → (GTerm → Int → Option E47)
 | 0 => (fun _ _ => none)
 | n + 1 => (s47 (mm47 n))
def m47 (n : Nat) : GTerm → Int → Option E47 := (mm47 n)
theorem mm47_ok : ∀ n, H47 (m47 n)
 | 0 => fun _ _ h => (by cases h)
 | n + 1 => by
  have ih := mm47_ok n
  have i47 := ih
  exact (hl_of (F47_ok i47) (fa47 (m47 n)) (fun _ => by kernel_rfl) (fun _ => by kernel_rfl) fun g => c47 (m47 n) g.1 g.2.1)
def r47 : GTerm → Int → Option E47 := fun a0 a1 => lim (fun n => m47 n a0 a1)
theorem r47_ok : H47 r47 := fun g b h => by
 obtain ⟨n, hn⟩ := lim_some (show lim (fun n => m47 n g.1 g.2.1) = some b from h)
 exact (mm47_ok n) g b hn
def e47 (F : Orc) : Orc := x47 r47 F
theorem e47_ok {F : Orc} (h : OrcG Tryz.prog F) : OrcG Tryz.prog (e47 F) := x47_ok r47_ok h
abbrev E46 : Type := Int
def d46 : Td 0 E46 := .c [] [4] (.r 0 0 (ec 4 (qi .i64) en) sn (fun z => z.1.1) (fun x => ((x, ()), (()))) fun _ => rfl)
def A46 := (lc (ql 111) (lc (qi .i64) ln))
def x46 (M : (List GStep) → Int → Option E46) : Orc → Orc := eL Tryz.prog 46 false A46 d46 (fun g => M g.1 g.2.1)
def H46 (M : (List GStep) → Int → Option E46) : Prop := HL Tryz.prog 46 A46 d46 (fun g => M g.1 g.2.1)
theorem x46_ok {M : (List GStep) → Int → Option E46} (hM : H46 M) {F : Orc} (h : OrcG Tryz.prog F) : OrcG Tryz.prog (x46 M F) := eL_ok (sc := scU) scU_ok hM ⟨_, Tryz.func46, by kernel_rfl, by kernel_rfl⟩ (fun _ => by kernel_rfl) (fun _ => by kernel_rfl) h
def F46 (M46 : (List GStep) → Int → Option E46) : Orc := (e47 (x46 M46 or0))
theorem F46_ok {M46} (h46 : H46 M46) : OrcG Tryz.prog (F46 M46) := (e47_ok (x46_ok h46 or0_g))
structure L46_0 where
 t0 : List GStep
 t1 : Int
 t5 : Int
def d46_0 : Td 0 L46_0 := .c [] [0, 1, 5] (.r 0 0 (ec 0 (ql 111) (ec 1 (qi .i64) (ec 5 (qi .i64) en))) sn (fun z => ⟨z.1.1, z.1.2.1, z.1.2.2.1⟩) (fun x => ((x.t0, x.t1, x.t5, ()), (()))) fun _ => rfl)
def n46_0 (M46 : (List GStep) → Int → Option E46) (p : L46_0) : Option (Option L46_0) :=
 match bif decide (p.t5 < (↑p.t0.length : Int)) then some (decide (0 ≤ p.t1)) else some (false) with | none => none | some r1 => bif r1 then if (0 : Int) ≤ p.t5 ∧ p.t5 < (↑p.t0.length : Int) then match r47 (GTerm.mk p.t0[p.t5.toNat]!.fTerm.fOp p.t0[p.t5.toNat]!.fTerm.fN p.t0[p.t5.toNat]!.fTerm.fKids) (i64.wrap (p.t1 - 1)) with | none => none | some r2 => if (0 : Int) ≤ p.t5 ∧ p.t5 < (↑p.t0.length : Int) then bif decide (r2 < (↑p.t0[p.t5.toNat]!.fBounds.length : Int)) then some (none) else if (0 : Int) ≤ p.t5 ∧ p.t5 < (↑p.t0.length : Int) then if (0 : Int) ≤ p.t5 ∧ p.t5 < (↑p.t0.length : Int) then if (0 : Int) ≤ p.t5 ∧ p.t5 < (↑p.t0.length : Int) then match M46 p.t0[p.t5.toNat]!.fThen (i64.wrap (r2 - (↑p.t0[p.t5.toNat]!.fBounds.length : Int))) with | none => none | some r3 => match M46 p.t0[p.t5.toNat]!.fElse r3 with | none => none | some r4 => some (some (L46_0.mk p.t0 r4 (i64.wrap (p.t5 + 1)))) else none else none else none else none else none else some (none)
def g46_0 (M46 : (List GStep) → Int → Option E46) : An := (.two (.two (.rb [] 13) .no) .no)
theorem q46_0 (M46 : (List GStep) → Int → Option E46) (p : L46_0) : execA Tryz.prog (F46 M46) Tryz.f46.ntmps 300 (loopAt Tryz.f46 0) (g46_0 M46) (Option L46_0) (d46_0.pat p) (kOn d46_0.rd) = n46_0 M46 p := by kernel_rfl
def a46_0 (M46 : (List GStep) → Int → Option E46) : L46_0 → Option L46_0 := advG (n46_0 M46)
def an46 (M46 : (List GStep) → Int → Option E46) : An := (.two .no (.two (.two .no (d46_0.lp (a46_0 M46) (g46_0 M46))) .no))
theorem pu46 {M46} : ∀ f ∈ ([] : List Nat), PureF (F46 M46) f := ob_nil
theorem fa46 (M46 : (List GStep) → Int → Option E46) : FnAn Tryz.prog (F46 M46) 0 300 46 (an46 M46) := fnAn_of (l := [(loopAt Tryz.f46 0, (d46_0.lp (a46_0 M46) (g46_0 M46))), (.skip, (.rb [] 13))]) Tryz.func46 (bodyOf_eq (by kernel_rfl)) (by kernel_rfl) (ob_cons ⟨d46_0.ok _, advG_ok (q46_0 M46)⟩ (ob_cons pu46 ob_nil))
def s46 (M46 : (List GStep) → Int → Option E46) (a0 : List GStep) (a1 : Int) : Option E46 :=
 match a46_0 M46 (L46_0.mk a0 a1 (0)) with | none => none | some r5 => match bif decide (r5.t5 < (↑r5.t0.length : Int)) then some (decide (0 ≤ r5.t1)) else some (false) with | none => none | some r6 => bif r6 then if (0 : Int) ≤ r5.t5 ∧ r5.t5 < (↑r5.t0.length : Int) then match r47 (GTerm.mk r5.t0[r5.t5.toNat]!.fTerm.fOp r5.t0[r5.t5.toNat]!.fTerm.fN r5.t0[r5.t5.toNat]!.fTerm.fKids) (i64.wrap (r5.t1 - 1)) with | none => none | some r7 => if (0 : Int) ≤ r5.t5 ∧ r5.t5 < (↑r5.t0.length : Int) then bif decide (r7 < (↑r5.t0[r5.t5.toNat]!.fBounds.length : Int)) then some (-1) else if (0 : Int) ≤ r5.t5 ∧ r5.t5 < (↑r5.t0.length : Int) then if (0 : Int) ≤ r5.t5 ∧ r5.t5 < (↑r5.t0.length : Int) then if (0 : Int) ≤ r5.t5 ∧ r5.t5 < (↑r5.t0.length : Int) then match M46 r5.t0[r5.t5.toNat]!.fThen (i64.wrap (r7 - (↑r5.t0[r5.t5.toNat]!.fBounds.length : Int))) with | none => none | some r8 => match M46 r5.t0[r5.t5.toNat]!.fElse r8 with | none => none | some r9 => none else none else none else none else none else none else some (r5.t1)
theorem c46 (M46 : (List GStep) → Int → Option E46) (a0 : List GStep) (a1 : Int) : callR Tryz.prog (F46 M46) 300 (an46 M46) 46 (A46.c (a0, a1, ())) [] 0 d46.rd = s46 M46 a0 a1 := by kernel_rfl
def mm46 : Nat → ((List GStep) → Int → Option E46)
 | 0 => (fun _ _ => none)
 | n + 1 => (s46 (mm46 n))
def m46 (n : Nat) : (List GStep) → Int → Option E46 := (mm46 n)
theorem mm46_ok : ∀ n, H46 (m46 n)
 | 0 => fun _ _ h => (by cases h)
 | n + 1 => by
  have ih := mm46_ok n
  have i46 := ih
  exact (hl_of (F46_ok i46) (fa46 (m46 n)) (fun _ => by kernel_rfl) (fun _ => by kernel_rfl) fun g => c46 (m46 n) g.1 g.2.1)
def r46 : (List GStep) → Int → Option E46 := fun a0 a1 => lim (fun n => m46 n a0 a1)
theorem r46_ok : H46 r46 := fun g b h => by
 obtain ⟨n, hn⟩ := lim_some (show lim (fun n => m46 n g.1 g.2.1) = some b from h)
 exact (mm46_ok n) g b hn
def e46 (F : Orc) : Orc := x46 r46 F
theorem e46_ok {F : Orc} (h : OrcG Tryz.prog F) : OrcG Tryz.prog (e46 F) := x46_ok r46_ok h
def F13 : Orc := (e47 (e46 or0))
theorem F13_ok : OrcG Tryz.prog F13 := (e47_ok (e46_ok or0_g))
structure L13_0 where
 t7 : Int
 t27 : List Hatch
 t28 : Int
 t29 : Int
def d13_0 : Td 0 L13_0 := .c [] [7, 27, 28, 29] (.r 0 0 (ec 7 (qi .i64) (ec 27 (ql 116) (ec 28 (qi .i64) (ec 29 (qi .i64) en)))) sn (fun z => ⟨z.1.1, z.1.2.1, z.1.2.2.1, z.1.2.2.2.1⟩) (fun x => ((x.t7, x.t27, x.t28, x.t29, ()), (()))) fun _ => rfl)
def n13_0 (p : L13_0) : Option (Option L13_0) :=
 bif decide (p.t29 < p.t28) then if (0 : Int) ≤ p.t29 ∧ p.t29 < (↑p.t27.length : Int) then match r47 (GTerm.mk p.t27[p.t29.toNat]!.fTerm.fOp p.t27[p.t29.toNat]!.fTerm.fN p.t27[p.t29.toNat]!.fTerm.fKids) p.t7 with | none => none | some r1 => some (some (L13_0.mk r1 p.t27 p.t28 (i64.wrap (p.t29 + 1)))) else none else some (none)
theorem q13_0 (p : L13_0) : execA Tryz.prog (F13) Tryz.f13.ntmps 300 (loopAt Tryz.f13 0) .no (Option L13_0) (d13_0.pat p) (kOn d13_0.rd) = n13_0 p := by kernel_rfl
def a13_0 : L13_0 → Option L13_0 := advG (n13_0)
abbrev E13 : Type := Bool
def d13 : Td 0 E13 := .c [] [6] (.r 0 0 (ec 6 qb en) sn (fun z => z.1.1) (fun x => ((x, ()), (()))) fun _ => rfl)
def A13 := (lc (qg 26) (lc (qi .i64) (lc (qi .i64) ln)))
def an13 : An := (.two .no (.two (.two (.rb [] 21) .no) (.two .no (.two (.two .no (d13_0.lp a13_0 .no)) .no))))
theorem pu13  : ∀ f ∈ ([] : List Nat), PureF (F13) f := ob_nil
theorem fa13 : FnAn Tryz.prog (F13) 0 300 13 (an13) := fnAn_of (l := [(.skip, (.rb [] 21)), (loopAt Tryz.f13 0, (d13_0.lp a13_0 .no))]) Tryz.func13 (bodyOf_eq (by kernel_rfl)) (by kernel_rfl) (ob_cons pu13 (ob_cons ⟨d13_0.ok _, advG_ok (q13_0)⟩ ob_nil))
def m13 (a0 : Flat) (a1 : Int) (a2 : Int) : Option E13 :=
 match bif decide (a1 < (↑a0.fVars.length : Int)) then some (true) else some (decide (a1 < (↑a0.fHatches.length : Int))) with | none => none | some r2 => bif r2 then some (false) else match r46 a0.fBody a2 with | none => none | some r3 => match a13_0 (L13_0.mk r3 a0.fHatches (↑a0.fHatches.length : Int) (0)) with | none => none | some r4 => bif decide (r4.t29 < r4.t28) then if (0 : Int) ≤ r4.t29 ∧ r4.t29 < (↑r4.t27.length : Int) then match r47 (GTerm.mk r4.t27[r4.t29.toNat]!.fTerm.fOp r4.t27[r4.t29.toNat]!.fTerm.fN r4.t27[r4.t29.toNat]!.fTerm.fKids) r4.t7 with | none => none | some r5 => none else none else some (decide (0 ≤ r4.t7))
theorem c13 (a0 : Flat) (a1 : Int) (a2 : Int) : callR Tryz.prog (F13) 300 (an13) 13 (A13.c (a0, a1, a2, ())) [] 0 d13.rd = m13 a0 a1 a2 := by kernel_rfl
theorem h13 : HL Tryz.prog 13 A13 d13 (fun g => m13 g.1 g.2.1 g.2.2.1) := (hl_of F13_ok fa13 (fun _ => by kernel_rfl) (fun _ => by kernel_rfl) fun g => c13 g.1 g.2.1 g.2.2.1)
def e13 : Orc → Orc := eL Tryz.prog 13 false A13 d13 (fun g => m13 g.1 g.2.1 g.2.2.1)
theorem e13_ok {F : Orc} (h : OrcG Tryz.prog F) : OrcG Tryz.prog (e13 F) := eL_ok (sc := scU) scU_ok h13 ⟨_, Tryz.func13, by kernel_rfl, by kernel_rfl⟩ (fun _ => by kernel_rfl) (fun _ => by kernel_rfl) h
theorem e13_pure {F : Orc} {f : Nat} (h : PureF F f) : PureF (e13 F) f := orL_pure h (fun _ => by kernel_rfl)
theorem GTerm.eta (t : GTerm) : GTerm.mk t.fOp t.fN t.fKids = t := by cases t; rfl
theorem GTerm.kids_lt {t k : GTerm} (h : k ∈ t.fKids) : SizeOf.sizeOf k < SizeOf.sizeOf t := by
 cases t
 have := List.sizeOf_lt_of_mem h
 simp only [GTerm.mk.sizeOf_spec]
 simp only at this
 omega
def nT (t : GTerm) : Nat := 1 + (t.fKids.attach.map fun k => nT k.1).sum
termination_by SizeOf.sizeOf t
decreasing_by exact GTerm.kids_lt k.2
def nTs (l : List GTerm) : Nat := (l.map nT).sum
theorem nT_eq (t : GTerm) : nT t = 1 + nTs t.fKids := by
 rw [nT, nTs]
 simp
theorem nTs_cons (k : GTerm) (ks : List GTerm) : nTs (k :: ks) = nT k + nTs ks := by simp [nTs]
theorem nTs_mem {k : GTerm} {ks : List GTerm} (h : k ∈ ks) : nT k ≤ nTs ks := by
  induction ks with
  | nil => cases h
  | cons a ks ih =>
    rw [nTs_cons]
    rcases List.mem_cons.1 h with rfl | h
    · omega
    · have := ih h; omega
theorem nT_pos (t : GTerm) : 0 < nT t := by rw [nT_eq]; omega
def tl (t : GTerm) (left : Int) : Int := if (nT t : Int) ≤ left then left - nT t else if 0 ≤ left then -1 else left - 1
def tls : List GTerm → Int → Int
 | [], l => l
 | k :: ks, l => if 0 ≤ l then tls ks (tl k l) else l
theorem tls_eq : ∀ (ks : List GTerm) (l : Int), tls ks l = if 0 ≤ l then (if (nTs ks : Int) ≤ l then l - nTs ks else -1) else l
  | [], l => by simp [tls, nTs]; omega
  | k :: ks, l => by
    have e := nTs_cons k ks
    unfold tls
    by_cases h : 0 ≤ l
    · rw [if_pos h, if_pos h, tls_eq ks, e]
      unfold tl
      grind
    · omega
theorem tl_eq (t : GTerm) (left : Int) : tl t left = tls t.fKids (left - 1) := by
 rw [tls_eq, tl, nT_eq]
 grind
theorem tl_bd (t : GTerm) (l : Int) : (0 ≤ l → -1 ≤ tl t l ∧ tl t l ≤ l - 1) ∧ (l < 0 → tl t l = l - 1) := by
 have := nT_pos t
 unfold tl
 grind
theorem loop55 (M : GTerm → Int → Option E47) (t : GTerm) (hM : ∀ k ∈ t.fKids, ∀ l : Int, 0 ≤ l → l ≤ 1000 → M k l = some (tl k l)) :
    ∀ (ks : List GTerm) (i : Nat) (l : Int), t.fKids.drop i = ks → i + ks.length = t.fKids.length → l ≤ 1000 - i → ∃ q, a47_0 M ⟨l, i, t⟩ = some q ∧ q.t1 = tls ks l ∧ q.b0 = t ∧ (q.t5 < t.fKids.length → q.t1 < 0)
  | [], i, l, hd, hl, _ => by
    refine ⟨_, advG_stop fun r => ?_, rfl, rfl, fun h => ?_⟩
    · have : ¬ ((i : Int) < t.fKids.length) := by simp at hl; omega
      simp [n47_0, this]
    · simp at hl h; omega
  | k :: ks, i, l, hd, hl, h2 => by
    have hil : i < t.fKids.length := by simp at hl; omega
    have hki : t.fKids[i]! = k := by
      have : t.fKids[i]? = some k := by
        have := congrArg List.head? hd
        rw [List.head?_drop] at this
        assumption
      rw [List.getElem!_eq_getElem?_getD, this]; rfl
    have hmem : k ∈ t.fKids := by rw [← hki, getElem!_pos t.fKids i hil]; exact List.getElem_mem hil
    by_cases h0 : 0 ≤ l
    · have hd' : t.fKids.drop (i + 1) = ks := by
        have := congrArg List.tail hd
        rw [List.tail_drop] at this
        assumption
      have b3 := ((tl_bd k l).1 h0).2
      obtain ⟨q, e1, e2, e3, e4⟩ := loop55 M t hM ks (i + 1) (tl k l) hd' (by simp at hl; omega) (by omega)
      refine ⟨q, ?_, ?_, e3, e4⟩
      · rw [← e1]
        refine advG_step ?_
        have hw : i64.wrap ((i : Int) + 1) = ((i + 1 : Nat) : Int) := by rw [wrap_id (by omega) (by omega)]; omega
        have hk2 : t.fKids[i] = k := by rw [← hki, getElem!_pos t.fKids i hil]
        simp [n47_0, hil, h0, hk2, GTerm.eta, hM k hmem l h0 (by omega)]
        exact hw
      · rw [e2]
        show _ = if 0 ≤ l then _ else _
        omega
    · refine ⟨_, advG_stop fun r => ?_, ?_, rfl, fun h => ?_⟩
      · simp [n47_0, h0]
      · show l = if 0 ≤ l then _ else l
        omega
      · simp only; omega
theorem s47_eq (M : GTerm → Int → Option E47) (t : GTerm) (hM : ∀ k ∈ t.fKids, ∀ l : Int, 0 ≤ l → l ≤ 1000 → M k l = some (tl k l)) (l : Int) (h1 : -1000000 ≤ l) (h2 : l ≤ 1000) : s47 M t l = some (tl t l) := by
  obtain ⟨q, e1, e2, e3, e4⟩ := loop55 M t hM t.fKids 0 (l - 1) rfl (by simp) (by omega)
  have hw : i64.wrap (l - 1) = l - 1 := wrap_id (by omega) (by omega)
  rw [tl_eq, ← e2]
  unfold s47
  rw [hw, GTerm.eta, show ((0 : Nat) : Int) = 0 from rfl] at *
  rw [e1]
  obtain ⟨q1, q5, qb⟩ := q
  subst e3
  dsimp only at *
  by_cases h5 : q5 < (qb.fKids.length : Int)
  · have := e4 h5
    simp [show ¬ (0 ≤ q1) by omega]
  · simp [h5]
theorem m47_eq : ∀ (n : Nat) (t : GTerm) (l : Int), SizeOf.sizeOf t < n → -1000000 ≤ l → l ≤ 1000 → m47 n t l = some (tl t l)
 | 0, _, _, h, _, _ => by omega
 | n + 1, t, l, h, h1, h2 => s47_eq (m47 n) t (fun k hk l h3 h4 => m47_eq n k l (by have := GTerm.kids_lt hk; omega) (by omega) h4) l h1 h2
theorem r47_eq (t : GTerm) (l : Int) (h1 : -1000000 ≤ l) (h2 : l ≤ 1000) : r47 t l = some (tl t l) := lim_eq (SizeOf.sizeOf t + 1) fun n hn => m47_eq n t l (by omega) h1 h2
theorem GStep.then_lt {s k : GStep} (h : k ∈ s.fThen) : SizeOf.sizeOf k < SizeOf.sizeOf s := by
 cases s
 have := List.sizeOf_lt_of_mem h
 simp only [GStep.mk.sizeOf_spec]
 simp only at this
 omega
theorem GStep.else_lt {s k : GStep} (h : k ∈ s.fElse) : SizeOf.sizeOf k < SizeOf.sizeOf s := by
 cases s
 have := List.sizeOf_lt_of_mem h
 simp only [GStep.mk.sizeOf_spec]
 simp only at this
 omega
theorem GStep.eta (s : GStep) : GStep.mk s.fDo s.fCost s.fVar s.fN s.fTerm s.fThen s.fElse s.fBounds = s := by cases s; rfl
def nS (s : GStep) : Nat := 1 + nT s.fTerm + s.fBounds.length + (s.fThen.attach.map fun k => nS k.1).sum + (s.fElse.attach.map fun k => nS k.1).sum
termination_by SizeOf.sizeOf s
decreasing_by
  · exact GStep.then_lt k.2
  · exact GStep.else_lt k.2
def nSs (l : List GStep) : Nat := (l.map nS).sum
theorem nS_eq (s : GStep) : nS s = 1 + nT s.fTerm + s.fBounds.length + nSs s.fThen + nSs s.fElse := by
 rw [nS, nSs, nSs]
 simp
theorem nSs_cons (k : GStep) (ks : List GStep) : nSs (k :: ks) = nS k + nSs ks := by simp [nSs]
def sl (l : List GStep) (left : Int) : Int := if left < 0 then left else if (nSs l : Int) ≤ left then left - nSs l else -1
def stp54 (left : Int) (s : GStep) : Option Int := if left < 0 then none else if tl s.fTerm (left - 1) < s.fBounds.length then none else some (sl s.fElse (sl s.fThen (tl s.fTerm (left - 1) - s.fBounds.length)))
theorem stp54_le {left x : Int} {s : GStep} (h : stp54 left s = some x) : 0 ≤ left ∧ -1 ≤ x ∧ x ≤ left - 1 ∧ x = if (nS s : Int) ≤ left then left - nS s else -1 := by
 unfold stp54 at h
 have e := nS_eq s
 unfold tl sl at h
 grind
theorem stp54_none {left : Int} {s : GStep} (h : stp54 left s = none) (h0 : 0 ≤ left) : left < nS s := by
 unfold stp54 at h
 have e := nS_eq s
 unfold tl at h
 grind
theorem run54 : ∀ (l : List GStep) (left : Int), foldE stp54 (fun v _ => if v < 0 then v else -1) id l left = sl l left
 | [], left => by unfold sl; simp [nSs, foldE]; omega
 | s :: l, left => by
  have e := nSs_cons s l
  unfold foldE
  cases hs : stp54 left s with
  | none =>
   have := stp54_none hs
   unfold sl
   grind
  | some x =>
   obtain ⟨h1, h2, h3, h4⟩ := stp54_le hs
   dsimp only
   rw [run54 l x]
   unfold sl
   grind
theorem s46_eq (M : List GStep → Int → Option E46) (l : List GStep) (hM : ∀ s ∈ l, (∀ x : Int, -1 ≤ x → x ≤ 1000 → M s.fThen x = some (sl s.fThen x)) ∧ (∀ x : Int, -1 ≤ x → x ≤ 1000 → M s.fElse x = some (sl s.fElse x))) (left : Int) (h1 : -1 ≤ left) (h2 : left ≤ 1000) :
    s46 M l left = some (sl l left) := by
  have hstep : ∀ (i : Nat) (b : Int) (hi : i < l.length), b ≤ 1000 - i → -1 ≤ b → n46_0 M ⟨l, b, i⟩ = if b < 0 then some none else if tl l[i].fTerm (b - 1) < l[i].fBounds.length then some none else some (some ⟨l, sl l[i].fElse (sl l[i].fThen (tl l[i].fTerm (b - 1) - l[i].fBounds.length)), ((i + 1 : Nat) : Int)⟩) := fun i b hi hb hb2 => by
    obtain ⟨m1, m2⟩ := hM l[i] (List.getElem_mem hi)
    unfold n46_0
    by_cases h0 : b < 0
    · simp [show ¬ 0 ≤ b by omega]
    · have e1 : i64.wrap (b - 1) = b - 1 := wrap_id (by omega) (by omega)
      have e2 := r47_eq l[i].fTerm (b - 1) (by omega) (by omega)
      have e3 := tl_bd l[i].fTerm (b - 1)
      have hT : -2 ≤ tl l[i].fTerm (b - 1) ∧ tl l[i].fTerm (b - 1) ≤ 1000 := by grind
      by_cases h4 : tl l[i].fTerm (b - 1) < l[i].fBounds.length
      · simp [hi, e1, GTerm.eta, e2, h4]
      · have e5 : i64.wrap (tl l[i].fTerm (b - 1) - l[i].fBounds.length) = tl l[i].fTerm (b - 1) - l[i].fBounds.length := wrap_id (by omega) (by omega)
        have e6 := m1 (tl l[i].fTerm (b - 1) - l[i].fBounds.length) (by omega) (by omega)
        have hS : -1 ≤ sl l[i].fThen (tl l[i].fTerm (b - 1) - l[i].fBounds.length) ∧ sl l[i].fThen (tl l[i].fTerm (b - 1) - l[i].fBounds.length) ≤ 1000 := by unfold sl; grind
        have e7 := m2 _ hS.1 hS.2
        have e8 : i64.wrap ((i : Int) + 1) = ((i + 1 : Nat) : Int) := by rw [wrap_id (by omega) (by omega)]; omega
        simp [hi, h0, e1, GTerm.eta, e2, h4, e5, e6, e7, show 0 ≤ b by omega]
        exact e8
  obtain ⟨i, v, hi, e1, ⟨e2, e3⟩, e4⟩ := advG_list (rnd := n46_0 M) l (fun i b => ⟨l, b, (i : Int)⟩) stp54 (fun v _ => if v < 0 then v else -1) id (fun i b => b ≤ 1000 - i ∧ -1 ≤ b) (fun i b hi hI b' hs => by
      obtain ⟨q1, q2, q3, q4⟩ := stp54_le hs
      refine ⟨?_, by omega, q2⟩
      unfold stp54 at hs
      grind) (fun i b hi hI hs r => by
      unfold stp54 at hs
      grind) (fun b hI r => by simp [n46_0]) (b := left) ⟨by omega, h1⟩
  have e1' : a46_0 M ⟨l, left, 0⟩ = some ⟨l, v, i⟩ := e1
  unfold s46
  rw [e1']
  rw [run54] at e4
  rcases e4 with ⟨h5, e4⟩ | ⟨h5, hn, e4⟩
  · simp [h5, e4]
  · rw [e4]
    by_cases h0 : v < 0
    · simp [h5, h0, show ¬ (0 ≤ v) by omega]
    · have e1 : i64.wrap (v - 1) = v - 1 := wrap_id (by omega) (by omega)
      have e2 := r47_eq l[i].fTerm (v - 1) (by omega) (by omega)
      have h4 : tl l[i].fTerm (v - 1) < l[i].fBounds.length := by unfold stp54 at hn; grind
      simp [h5, h0, show 0 ≤ v by omega, e1, GTerm.eta, e2, h4]
theorem sizeOf_then {s : GStep} {l : List GStep} (h : s ∈ l) : SizeOf.sizeOf s.fThen < SizeOf.sizeOf l ∧ SizeOf.sizeOf s.fElse < SizeOf.sizeOf l := by
 have := List.sizeOf_lt_of_mem h
 cases s
 simp only [GStep.mk.sizeOf_spec] at this
 simp only
 omega
theorem m46_eq : ∀ (n : Nat) (l : List GStep) (x : Int), SizeOf.sizeOf l < n → -1 ≤ x → x ≤ 1000 → m46 n l x = some (sl l x)
 | 0, _, _, h, _, _ => by omega
 | n + 1, l, x, h, h1, h2 => s46_eq (m46 n) l (fun s hs => ⟨fun x h3 h4 => m46_eq n _ x (by have := sizeOf_then hs; omega) h3 h4, fun x h3 h4 => m46_eq n _ x (by have := sizeOf_then hs; omega) h3 h4⟩) x h1 h2
theorem r46_eq (l : List GStep) (x : Int) (h1 : -1 ≤ x) (h2 : x ≤ 1000) : r46 l x = some (sl l x) := lim_eq (SizeOf.sizeOf l + 1) fun n hn => m46_eq n l x (by omega) h1 h2
def few (f : Flat) (vars nodes : Int) : Bool := decide ((f.fVars.length : Int) ≤ vars ∧ (f.fHatches.length : Int) ≤ vars ∧ (nSs f.fBody + nTs (f.fHatches.map (·.fTerm)) : Int) ≤ nodes)
theorem m13_eq (f : Flat) (vars nodes : Int) (h1 : 0 ≤ vars) (h2 : vars ≤ 1000) (h3 : 0 ≤ nodes) (h4 : nodes ≤ 1000) : m13 f vars nodes = some (few f vars nodes) := by
  unfold m13
  by_cases q1 : vars < f.fVars.length
  · simp [q1, few]; omega
  · by_cases q2 : vars < f.fHatches.length
    · simp [q2, few]; omega
    · rw [r46_eq _ _ (by omega) (by omega)]
      have hb : sl f.fBody nodes ≤ 1000 ∧ -1 ≤ sl f.fBody nodes := by unfold sl; grind
      have hstep : ∀ (i : Nat) (b : Int) (hi : i < f.fHatches.length), b ≤ 1000 → -1 - (i : Int) ≤ b → n13_0 ⟨b, f.fHatches, f.fHatches.length, i⟩ = some (some ⟨tl f.fHatches[i].fTerm b, f.fHatches, f.fHatches.length, ((i + 1 : Nat) : Int)⟩) := fun i b hi hb hb2 => by
        have e2 := r47_eq f.fHatches[i].fTerm b (by omega) (by omega)
        have e8 : i64.wrap ((i : Int) + 1) = ((i + 1 : Nat) : Int) := by rw [wrap_id (by omega) (by omega)]; omega
        unfold n13_0
        simp [hi, GTerm.eta, e2]
        exact e8
      obtain ⟨i, v, hi, e1, _, e4⟩ := advG_list (rnd := n13_0) f.fHatches (fun i b => ⟨b, f.fHatches, f.fHatches.length, (i : Int)⟩) (fun b h => some (tl h.fTerm b)) (fun v _ => v) id (fun i b => b ≤ 1000 ∧ -1 - (i : Int) ≤ b) (fun i b hi hI b' hs => by
          have := tl_bd f.fHatches[i].fTerm b
          grind) (fun i b hi hI hs r => by cases hs) (fun b hI r => by simp [n13_0]) (b := sl f.fBody nodes) ⟨hb.1, by omega⟩
      have e1' : a13_0 ⟨sl f.fBody nodes, f.fHatches, f.fHatches.length, 0⟩ = some ⟨v, f.fHatches, f.fHatches.length, i⟩ := e1
      rcases e4 with ⟨h5, e4⟩ | ⟨_, hn, _⟩
      case inr => cases hn
      have key : ∀ (l : List Hatch) (b : Int), 0 ≤ foldE (ρ := Int) (fun b h => some (tl h.fTerm b)) (fun v _ => v) id l b ↔ (nTs (l.map (·.fTerm)) : Int) ≤ b := fun l => by
        induction l with
        | nil => intro b; simp [foldE, nTs]
        | cons h l ih =>
          intro b
          unfold foldE
          rw [ih, List.map_cons, nTs_cons]
          unfold tl
          grind
      have k2 := key f.fHatches (sl f.fBody nodes)
      rw [e4] at k2
      have k3 : (0 ≤ v) ↔ (nTs (f.fHatches.map (·.fTerm)) : Int) ≤ sl f.fBody nodes := k2
      simp only [q1, q2, decide_false, cond_false, e1', h5, Int.lt_irrefl, few]
      congr 1
      rw [decide_eq_decide, k3]
      unfold sl
      grind
theorem Z0 : ((0 : Nat) : Int) = (0 : Int) := rfl
def okc (i : Nat) (c : Int) : Bool := decide ((97 ≤ c ∧ c ≤ 122) ∨ (i ≠ 0 ∧ ((48 ≤ c ∧ c ≤ 57) ∨ c = 46 ∨ c = 95)))
def nameB (s : ByteArray) : Bool := decide (1 ≤ s.size) && decide (s.size ≤ 40) && (List.range s.size).all fun i => okc i (byteAt s i)
def boundB (low high : Int) : Bool := decide (low ≤ high ∧ -1048576 ≤ low ∧ high ≤ 1048576)
def varC (vars : List GVar) (i : Nat) (v : GVar) : Int :=
 if nameB v.fName = false then 7
 else if ((vars.take i).any fun w => w.fName.toList == v.fName.toList) = true then 8
 else if v.fKind < 0 ∨ 3 < v.fKind then 1
 else if boundB v.fLow v.fHigh = false then 3
 else if v.fKind = 0 then (if v.fInit < v.fLow ∨ v.fHigh < v.fInit then 3 else 0)
 else if v.fInit = 0 then 0 else 3
def spc (kind : Int) : List GVar → Int → Option Int
 | [], n => some n
 | v :: vs, n => if v.fKind = kind then (if 4096 < n * (v.fHigh - v.fLow + 1) then none else spc kind vs (n * (v.fHigh - v.fLow + 1))) else spc kind vs n
def spaceB (vars : List GVar) : Bool := (spc 1 vars 1).isSome && (spc 2 vars 1).isSome && (match spc 3 vars 1 with | some n => decide (n ≤ 256) | none => false)
def varsC (vars : List GVar) : Int := if firstC (varC vars) vars 0 ≠ 0 then firstC (varC vars) vars 0 else if spaceB vars = true then 0 else 4
def kidsN (o : Int) : Int × Int := if o = 0 ∨ o = 24 then (0, 0) else if o = 6 ∨ o = 7 then (1, 1) else if 8 ≤ o ∧ o ≤ 22 then (2, 2) else if o = 23 then (3, 3) else if o = 25 then (2, 33) else (-1, -1)
def form0 (vars : List GVar) (inp : Bool) (t : GTerm) : Bool := decide (0 ≤ (kidsN t.fOp).1 ∧ (kidsN t.fOp).1 ≤ t.fKids.length ∧ (t.fKids.length : Int) ≤ (kidsN t.fOp).2) &&
 (if t.fOp = 0 then true else if t.fOp = 24 then decide (0 ≤ t.fN ∧ t.fN < vars.length) && !(inp && decide (vars[t.fN.toNat]!.fKind = 0)) else decide (t.fN = 0))
def formS (vars : List GVar) (inp : Bool) (t : GTerm) : Bool := form0 vars inp t && t.fKids.attach.all fun k => formS vars inp k.1
termination_by SizeOf.sizeOf t
decreasing_by exact GTerm.kids_lt k.2
theorem formS_eq (vars : List GVar) (inp : Bool) (t : GTerm) : formS vars inp t = (form0 vars inp t && t.fKids.all (formS vars inp)) := by
 rw [formS]
 simp
def hull (a b : Span) : Span := ⟨if b.fLow < a.fLow then b.fLow else a.fLow, if a.fHigh < b.fHigh then b.fHigh else a.fHigh⟩
def ruleS (vars : List GVar) (t : GTerm) (k : List Span) : Span :=
 if t.fOp = 0 then ⟨t.fN, t.fN⟩
 else if t.fOp = 24 then ⟨vars[t.fN.toNat]!.fLow, vars[t.fN.toNat]!.fHigh⟩
 else if t.fOp = 6 then ⟨-k[0]!.fHigh, -k[0]!.fLow⟩
 else if t.fOp = 8 then ⟨k[0]!.fLow + k[1]!.fLow, k[0]!.fHigh + k[1]!.fHigh⟩
 else if t.fOp = 9 then ⟨k[0]!.fLow - k[1]!.fHigh, k[0]!.fHigh - k[1]!.fLow⟩
 else if t.fOp = 10 then
  hull (hull (hull ⟨k[0]!.fLow * k[1]!.fLow, k[0]!.fLow * k[1]!.fLow⟩ ⟨k[0]!.fLow * k[1]!.fHigh, k[0]!.fLow * k[1]!.fHigh⟩) ⟨k[0]!.fHigh * k[1]!.fLow, k[0]!.fHigh * k[1]!.fLow⟩) ⟨k[0]!.fHigh * k[1]!.fHigh, k[0]!.fHigh * k[1]!.fHigh⟩
 else if t.fOp = 11 then
  (if (0 : Int) ≤ k[0]!.fLow ∧ (0 : Int) ≤ k[1]!.fLow then ⟨0, if k[0]!.fHigh < -k[0]!.fLow then -k[0]!.fLow else k[0]!.fHigh⟩ else ⟨-(if k[0]!.fHigh < -k[0]!.fLow then -k[0]!.fLow else k[0]!.fHigh), if k[0]!.fHigh < -k[0]!.fLow then -k[0]!.fLow else k[0]!.fHigh⟩)
 else if t.fOp = 12 then ⟨if k[1]!.fLow < 0 then k[1]!.fLow + 1 else 0, if (0 : Int) < k[1]!.fHigh then k[1]!.fHigh - 1 else 0⟩
 else if t.fOp = 21 then ⟨if k[1]!.fLow < k[0]!.fLow then k[1]!.fLow else k[0]!.fLow, if k[1]!.fHigh < k[0]!.fHigh then k[1]!.fHigh else k[0]!.fHigh⟩
 else if t.fOp = 22 then ⟨if k[0]!.fLow < k[1]!.fLow then k[1]!.fLow else k[0]!.fLow, if k[0]!.fHigh < k[1]!.fHigh then k[1]!.fHigh else k[0]!.fHigh⟩
 else if t.fOp = 23 ∨ t.fOp = 25 then (k.drop 2).foldl hull k[1]!
 else ⟨0, 1⟩
def limS (s : Span) : Bool := decide (-1048576 ≤ s.fLow ∧ s.fHigh ≤ 1048576)
def allS : List (Option Span) → Option (List Span)
 | [] => some []
 | none :: _ => none
 | some s :: xs => match allS xs with | some l => some (s :: l) | none => none
def rngS (vars : List GVar) (t : GTerm) : Option Span := match allS (t.fKids.attach.map fun k => rngS vars k.1) with
 | none => none
 | some l => if limS (ruleS vars t l) = true then some (ruleS vars t l) else none
termination_by SizeOf.sizeOf t
decreasing_by exact GTerm.kids_lt k.2
theorem rngS_eq (vars : List GVar) (t : GTerm) : rngS vars t = match allS (t.fKids.map (rngS vars)) with
 | none => none
 | some l => if limS (ruleS vars t l) = true then some (ruleS vars t l) else none := by
 rw [rngS]
 simp
def termC (vars : List GVar) (inp : Bool) (t : GTerm) : Int := if formS vars inp t = false then 1 else if (rngS vars t).isSome then 0 else 3
def hatC (f : Flat) (i : Nat) (h : Hatch) : Int :=
 if nameB h.fName = false then 7
 else if ((f.fHatches.take i).any fun w => w.fName.toList == h.fName.toList) = true then 8
 else if boundB h.fLow h.fHigh = false then 3
 else termC f.fVars true h.fTerm
def dT (t : GTerm) : Int := 1 + (t.fKids.attach.map fun k => dT k.1).foldl max 0
termination_by SizeOf.sizeOf t
decreasing_by exact GTerm.kids_lt k.2
def dTs (l : List GTerm) : Int := (l.map dT).foldl max 0
theorem dT_eq (t : GTerm) : dT t = 1 + dTs t.fKids := by
 rw [dT, dTs]
 simp
theorem dTs_snoc (l : List GTerm) (k : GTerm) : dTs (l ++ [k]) = max (dTs l) (dT k) := by
 unfold dTs
 simp
theorem nTs_snoc (l : List GTerm) (k : GTerm) : nTs (l ++ [k]) = nTs l + nT k := by
 simp [nTs]
theorem le_foldl_max : ∀ (l : List Int) (a : Int), a ≤ l.foldl max a
 | [], a => Int.le_refl _
 | x :: l, a => Int.le_trans (Int.le_max_left a x) (le_foldl_max l (max a x))
theorem dTs_pos (l : List GTerm) : 0 ≤ dTs l := le_foldl_max _ _
theorem dT_pos (t : GTerm) : 1 ≤ dT t := by have := dTs_pos t.fKids; rw [dT_eq]; omega
theorem size_tail (s : GStep) (l : List GStep) : SizeOf.sizeOf l < SizeOf.sizeOf (s :: l) := by
 rw [List.cons.sizeOf_spec]
 omega
def dSs : List GStep → Int
 | [] => 0
 | s :: l => max (max (dSs s.fThen + 1) (dSs s.fElse + 1)) (dSs l)
termination_by l => SizeOf.sizeOf l
decreasing_by
  · exact (sizeOf_then (List.mem_cons_self ..)).1
  · exact (sizeOf_then (List.mem_cons_self ..)).2
  · exact size_tail _ _
def tDeep : List GStep → Bool
 | [] => false
 | s :: l => decide (12 < dT s.fTerm) || tDeep s.fThen || tDeep s.fElse || tDeep l
termination_by l => SizeOf.sizeOf l
decreasing_by
  · exact (sizeOf_then (List.mem_cons_self ..)).1
  · exact (sizeOf_then (List.mem_cons_self ..)).2
  · exact size_tail _ _
theorem dSs_pos (l : List GStep) : 0 ≤ dSs l := by
 induction l with
 | nil => rw [dSs]; omega
 | cons s l ih => rw [dSs]; omega
theorem dSs_snoc (l : List GStep) (s : GStep) : dSs (l ++ [s]) = max (dSs l) (max (dSs s.fThen + 1) (dSs s.fElse + 1)) := by
 induction l with
 | nil =>
  rw [List.nil_append, show dSs [] = 0 by rw [dSs], dSs, show dSs [] = 0 by rw [dSs]]
  omega
 | cons a l ih => rw [List.cons_append, dSs, dSs, ih]; omega
theorem nSs_snoc (l : List GStep) (k : GStep) : nSs (l ++ [k]) = nSs l + nS k := by simp [nSs]
def sizesB (f : Flat) : Bool := decide (f.fVars.length ≤ 64) && decide (f.fHatches.length ≤ 8) && f.fHatches.all (fun h => decide (dT h.fTerm ≤ 12)) && decide (dSs f.fBody ≤ 12) && !tDeep f.fBody
def riseB : List Int → Bool
 | a :: b :: l => decide (a < b) && riseB (b :: l)
 | _ => true
def zeroT (t : GTerm) : Bool := decide (t.fOp = 0 ∧ t.fN = 0 ∧ t.fKids.length = 0)
def localB (f : Flat) (s : GStep) : Bool := decide (0 ≤ s.fVar ∧ s.fVar < f.fVars.length) && decide (f.fVars[s.fVar.toNat]!.fKind = 0)
def shapeB (f : Flat) (s : GStep) (last : Bool) : Bool :=
 let free := decide (s.fThen.length = 0 ∧ s.fElse.length = 0)
 let nob := decide (s.fBounds.length = 0)
 if s.fDo = 0 then free && localB f s && decide (s.fN = 0) && nob
 else if s.fDo = 1 then free && decide (s.fVar = 0) && decide (s.fN = 0) && nob
 else if s.fDo = 2 then free && decide (s.fVar = 0) && decide (s.fN = 0) && nob && zeroT s.fTerm
 else if s.fDo = 3 then decide (s.fVar = 0) && decide (s.fN = 0) && nob
 else if s.fDo = 4 then decide (s.fVar = 0) && decide (s.fElse.length = 0) && nob
 else if s.fDo = 5 then free && localB f s && decide (0 ≤ s.fN ∧ s.fN < f.fHatches.length) && nob && zeroT s.fTerm
 else if s.fDo = 6 then free && last && decide (s.fVar = 0) && decide (s.fN = 0) && zeroT s.fTerm && (decide (1 ≤ s.fBounds.length ∧ s.fBounds.length ≤ 32) && decide ((0 : Int) ≤ s.fBounds[0]!) && riseB s.fBounds)
 else false
def numB (s : GStep) : Bool := decide (0 ≤ s.fCost ∧ s.fCost ≤ (if s.fDo = 2 then 67108864 else 10000)) && (if s.fDo = 4 then decide (0 ≤ s.fN ∧ s.fN ≤ 4096) else true) && (if s.fDo = 6 then decide (s.fBounds[s.fBounds.length - 1]! ≤ 67108864) else true)
def ownC (f : Flat) (last : Bool) (s : GStep) : Int := if shapeB f s last = false then 1 else if numB s = false then 3 else termC f.fVars false s.fTerm
def stepC (f : Flat) (top : Bool) : List GStep → Int
 | [] => 0
 | s :: l => if ownC f (top && l.isEmpty) s ≠ 0 then ownC f (top && l.isEmpty) s else if stepC f false s.fThen ≠ 0 then stepC f false s.fThen else if stepC f false s.fElse ≠ 0 then stepC f false s.fElse else stepC f top l
termination_by l => SizeOf.sizeOf l
decreasing_by
 all_goals first | exact (sizeOf_then (List.mem_cons_self ..)).1 | exact (sizeOf_then (List.mem_cons_self ..)).2 | exact size_tail _ _
def stC (f : Flat) (top : Bool) (n i : Nat) (s : GStep) : Int := if ownC f (top && decide (i + 1 = n)) s ≠ 0 then ownC f (top && decide (i + 1 = n)) s else if stepC f false s.fThen ≠ 0 then stepC f false s.fThen else stepC f false s.fElse
theorem stepC_first (f : Flat) (top : Bool) (n : Nat) : ∀ (l : List GStep) (i : Nat), i + l.length = n → firstC (stC f top n) l i = stepC f top l
 | [], i, _ => by rw [stepC]; rfl
 | s :: l, i, h => by
  have ih := stepC_first f top n l (i + 1) (by simp at h; omega)
  have he : l.isEmpty = decide (i + 1 = n) := by
   cases l with
   | nil => simp at h; simp [h]
   | cons a l => simp at h; simp; omega
  unfold firstC
  rw [stepC, ih, he]
  unfold stC
  grind
def uSs : List GStep → Int × Int × Int
 | [] => (0, 0, 0)
 | s :: l => match uSs s.fThen, uSs s.fElse, uSs l with
  | a, b, c => if s.fDo = 1 then (1 + c.1, 1 + c.2.1, s.fCost + c.2.2)
   else if s.fDo = 3 then (1 + max a.1 b.1 + c.1, max a.2.1 b.2.1 + c.2.1, s.fCost + max a.2.2 b.2.2 + c.2.2)
   else if s.fDo = 4 then (1 + s.fN * (1 + a.1) + c.1, s.fN * a.2.1 + c.2.1, s.fN * (s.fCost + a.2.2) + c.2.2)
   else (1 + c.1, c.2.1, s.fCost + c.2.2)
termination_by l => SizeOf.sizeOf l
decreasing_by
  · exact (sizeOf_then (List.mem_cons_self ..)).1
  · exact (sizeOf_then (List.mem_cons_self ..)).2
  · exact size_tail _ _
def overB (f : Flat) : Bool := decide (4096 < (uSs f.fBody).1 ∨ 8 < (uSs f.fBody).2.1 ∨ 67108864 < (uSs f.fBody).2.2)
def chk (f : Flat) : Int := if sizesB f = false then 4 else if varsC f.fVars ≠ 0 then varsC f.fVars else if firstC (hatC f) f.fHatches 0 ≠ 0 then firstC (hatC f) f.fHatches 0 else if stepC f true f.fBody ≠ 0 then stepC f true f.fBody else if overB f = true then 4 else 0
abbrev E104 : Type := Int
def d104 : Td 0 E104 := .c [] [2] (.r 0 0 (ec 2 (qi .i64) en) sn (fun z => z.1.1) (fun x => ((x, ()), (()))) fun _ => rfl)
def A104 := (lc (qg 106) ln)
def x104 (M : GTerm → Option E104) : Orc → Orc := eL Tryz.prog 104 false A104 d104 (fun g => M g.1)
theorem x104_pure {M : GTerm → Option E104} {F : Orc} {f : Nat} (h : PureF F f) : PureF (x104 M F) f := orL_pure h (fun _ => by kernel_rfl)
def H104 (M : GTerm → Option E104) : Prop := HL Tryz.prog 104 A104 d104 (fun g => M g.1)
theorem x104_ok {M : GTerm → Option E104} (hM : H104 M) {F : Orc} (h : OrcG Tryz.prog F) : OrcG Tryz.prog (x104 M F) := eL_ok (sc := scU) scU_ok hM ⟨_, Tryz.func104, by kernel_rfl, by kernel_rfl⟩ (fun _ => by kernel_rfl) (fun _ => by kernel_rfl) h
def F104 (M104 : GTerm → Option E104) : Orc := (x104 M104 or0)
theorem F104_ok {M104} (h104 : H104 M104) : OrcG Tryz.prog (F104 M104) := (x104_ok h104 or0_g)
structure L104_0 where
 t3 : Int
 t4 : Int
 b0 : GTerm
def d104_0 : Td 0 L104_0 := .c [] [1, 3, 4] (.r 0 1 (ec 1 (qp 0 0) (ec 3 (qi .i64) (ec 4 (qi .i64) en))) (sb 0 106 (lg 106) sn) (fun z => ⟨z.1.2.1, z.1.2.2.1, z.2.1⟩) (fun x => (((), x.t3, x.t4, ()), (x.b0, ()))) fun _ => rfl)
def n104_0 (M104 : GTerm → Option E104) (p : L104_0) : Option (Option L104_0) :=
 bif decide (p.t4 < (↑p.b0.fKids.length : Int)) then if (0 : Int) ≤ p.t4 ∧ p.t4 < (↑p.b0.fKids.length : Int) then match M104 (GTerm.mk p.b0.fKids[p.t4.toNat]!.fOp p.b0.fKids[p.t4.toNat]!.fN p.b0.fKids[p.t4.toNat]!.fKids) with | none => none | some r1 => some (some (L104_0.mk (i64.wrap (p.t3 + r1)) (i64.wrap (p.t4 + 1)) (GTerm.mk p.b0.fOp p.b0.fN p.b0.fKids))) else none else some (none)
theorem q104_0 (M104 : GTerm → Option E104) (p : L104_0) : execA Tryz.prog (F104 M104) Tryz.f104.ntmps 300 (loopAt Tryz.f104 0) .no (Option L104_0) (d104_0.pat p) (kOn d104_0.rd) = n104_0 M104 p := by kernel_rfl
def a104_0 (M104 : GTerm → Option E104) : L104_0 → Option L104_0 := advG (n104_0 M104)
def an104 (M104 : GTerm → Option E104) : An := (.two .no (.two .no (.two (.two .no (d104_0.lp (a104_0 M104) .no)) .no)))
theorem fa104 (M104 : GTerm → Option E104) : FnAn Tryz.prog (F104 M104) 0 300 104 (an104 M104) := fnAn_of (l := [(loopAt Tryz.f104 0, (d104_0.lp (a104_0 M104) .no))]) Tryz.func104 (bodyOf_eq (by kernel_rfl)) (by kernel_rfl) (ob_cons ⟨d104_0.ok _, advG_ok (q104_0 M104)⟩ ob_nil)
def s104 (M104 : GTerm → Option E104) (a0 : GTerm) : Option E104 :=
 match a104_0 M104 (L104_0.mk (1) (0) (GTerm.mk a0.fOp a0.fN a0.fKids)) with | none => none | some r2 => bif decide (r2.t4 < (↑r2.b0.fKids.length : Int)) then if (0 : Int) ≤ r2.t4 ∧ r2.t4 < (↑r2.b0.fKids.length : Int) then match M104 (GTerm.mk r2.b0.fKids[r2.t4.toNat]!.fOp r2.b0.fKids[r2.t4.toNat]!.fN r2.b0.fKids[r2.t4.toNat]!.fKids) with | none => none | some r3 => none else none else some (r2.t3)
theorem c104 (M104 : GTerm → Option E104) (a0 : GTerm) : callR Tryz.prog (F104 M104) 300 (an104 M104) 104 (A104.c (a0, ())) [] 0 d104.rd = s104 M104 a0 := by kernel_rfl
def mm104 : Nat → (GTerm → Option E104)
 | 0 => (fun _ => none)
 | n + 1 => (s104 (mm104 n))
def m104 (n : Nat) : GTerm → Option E104 := (mm104 n)
theorem mm104_ok : ∀ n, H104 (m104 n)
 | 0 => fun _ _ h => (by cases h)
 | n + 1 => by
  have ih := mm104_ok n
  have i104 := ih
  exact (hl_of (F104_ok i104) (fa104 (m104 n)) (fun _ => by kernel_rfl) (fun _ => by kernel_rfl) fun g => c104 (m104 n) g.1)
def r104 : GTerm → Option E104 := fun a0 => lim (fun n => m104 n a0)
theorem r104_ok : H104 r104 := fun g b h => by
 obtain ⟨n, hn⟩ := lim_some (show lim (fun n => m104 n g.1) = some b from h)
 exact (mm104_ok n) g b hn
def e104 (F : Orc) : Orc := x104 r104 F
theorem e104_ok {F : Orc} (h : OrcG Tryz.prog F) : OrcG Tryz.prog (e104 F) := x104_ok r104_ok h
theorem e104_pure {F : Orc} {f : Nat} (h : PureF F f) : PureF (e104 F) f := x104_pure h
abbrev E103 : Type := Int
def d103 : Td 0 E103 := .c [] [2] (.r 0 0 (ec 2 (qi .i64) en) sn (fun z => z.1.1) (fun x => ((x, ()), (()))) fun _ => rfl)
def A103 := (lc (ql 111) ln)
def x103 (M : (List GStep) → Option E103) : Orc → Orc := eL Tryz.prog 103 false A103 d103 (fun g => M g.1)
theorem x103_pure {M : (List GStep) → Option E103} {F : Orc} {f : Nat} (h : PureF F f) : PureF (x103 M F) f := orL_pure h (fun _ => by kernel_rfl)
def H103 (M : (List GStep) → Option E103) : Prop := HL Tryz.prog 103 A103 d103 (fun g => M g.1)
theorem x103_ok {M : (List GStep) → Option E103} (hM : H103 M) {F : Orc} (h : OrcG Tryz.prog F) : OrcG Tryz.prog (x103 M F) := eL_ok (sc := scU) scU_ok hM ⟨_, Tryz.func103, by kernel_rfl, by kernel_rfl⟩ (fun _ => by kernel_rfl) (fun _ => by kernel_rfl) h
def F103 (M103 : (List GStep) → Option E103) : Orc := (e104 (x103 M103 or0))
theorem F103_ok {M103} (h103 : H103 M103) : OrcG Tryz.prog (F103 M103) := (e104_ok (x103_ok h103 or0_g))
structure L103_0 where
 t0 : List GStep
 t3 : Int
 t4 : Int
def d103_0 : Td 0 L103_0 := .c [] [0, 3, 4] (.r 0 0 (ec 0 (ql 111) (ec 3 (qi .i64) (ec 4 (qi .i64) en))) sn (fun z => ⟨z.1.1, z.1.2.1, z.1.2.2.1⟩) (fun x => ((x.t0, x.t3, x.t4, ()), (()))) fun _ => rfl)
def n103_0 (M103 : (List GStep) → Option E103) (p : L103_0) : Option (Option L103_0) :=
 bif decide (p.t4 < (↑p.t0.length : Int)) then if (0 : Int) ≤ p.t4 ∧ p.t4 < (↑p.t0.length : Int) then match r104 (GTerm.mk p.t0[p.t4.toNat]!.fTerm.fOp p.t0[p.t4.toNat]!.fTerm.fN p.t0[p.t4.toNat]!.fTerm.fKids) with | none => none | some r1 => if (0 : Int) ≤ p.t4 ∧ p.t4 < (↑p.t0.length : Int) then match M103 p.t0[p.t4.toNat]!.fThen with | none => none | some r2 => if (0 : Int) ≤ p.t4 ∧ p.t4 < (↑p.t0.length : Int) then match M103 p.t0[p.t4.toNat]!.fElse with | none => none | some r3 => some (some (L103_0.mk p.t0 (i64.wrap (i64.wrap (i64.wrap (i64.wrap (p.t3 + 1) + r1) + r2) + r3)) (i64.wrap (p.t4 + 1)))) else none else none else none else some (none)
theorem q103_0 (M103 : (List GStep) → Option E103) (p : L103_0) : execA Tryz.prog (F103 M103) Tryz.f103.ntmps 300 (loopAt Tryz.f103 0) .no (Option L103_0) (d103_0.pat p) (kOn d103_0.rd) = n103_0 M103 p := by kernel_rfl
def a103_0 (M103 : (List GStep) → Option E103) : L103_0 → Option L103_0 := advG (n103_0 M103)
def an103 (M103 : (List GStep) → Option E103) : An := (.two .no (.two .no (.two (.two .no (d103_0.lp (a103_0 M103) .no)) .no)))
theorem fa103 (M103 : (List GStep) → Option E103) : FnAn Tryz.prog (F103 M103) 0 300 103 (an103 M103) := fnAn_of (l := [(loopAt Tryz.f103 0, (d103_0.lp (a103_0 M103) .no))]) Tryz.func103 (bodyOf_eq (by kernel_rfl)) (by kernel_rfl) (ob_cons ⟨d103_0.ok _, advG_ok (q103_0 M103)⟩ ob_nil)
def s103 (M103 : (List GStep) → Option E103) (a0 : List GStep) : Option E103 :=
 match a103_0 M103 (L103_0.mk a0 (0) (0)) with | none => none | some r4 => bif decide (r4.t4 < (↑r4.t0.length : Int)) then if (0 : Int) ≤ r4.t4 ∧ r4.t4 < (↑r4.t0.length : Int) then match r104 (GTerm.mk r4.t0[r4.t4.toNat]!.fTerm.fOp r4.t0[r4.t4.toNat]!.fTerm.fN r4.t0[r4.t4.toNat]!.fTerm.fKids) with | none => none | some r5 => if (0 : Int) ≤ r4.t4 ∧ r4.t4 < (↑r4.t0.length : Int) then match M103 r4.t0[r4.t4.toNat]!.fThen with | none => none | some r6 => if (0 : Int) ≤ r4.t4 ∧ r4.t4 < (↑r4.t0.length : Int) then match M103 r4.t0[r4.t4.toNat]!.fElse with | none => none | some r7 => none else none else none else none else some (r4.t3)
theorem c103 (M103 : (List GStep) → Option E103) (a0 : List GStep) : callR Tryz.prog (F103 M103) 300 (an103 M103) 103 (A103.c (a0, ())) [] 0 d103.rd = s103 M103 a0 := by kernel_rfl
def mm103 : Nat → ((List GStep) → Option E103)
 | 0 => (fun _ => none)
 | n + 1 => (s103 (mm103 n))
def m103 (n : Nat) : (List GStep) → Option E103 := (mm103 n)
theorem mm103_ok : ∀ n, H103 (m103 n)
 | 0 => fun _ _ h => (by cases h)
 | n + 1 => by
  have ih := mm103_ok n
  have i103 := ih
  exact (hl_of (F103_ok i103) (fa103 (m103 n)) (fun _ => by kernel_rfl) (fun _ => by kernel_rfl) fun g => c103 (m103 n) g.1)
def r103 : (List GStep) → Option E103 := fun a0 => lim (fun n => m103 n a0)
theorem r103_ok : H103 r103 := fun g b h => by
 obtain ⟨n, hn⟩ := lim_some (show lim (fun n => m103 n g.1) = some b from h)
 exact (mm103_ok n) g b hn
def e103 (F : Orc) : Orc := x103 r103 F
theorem e103_ok {F : Orc} (h : OrcG Tryz.prog F) : OrcG Tryz.prog (e103 F) := x103_ok r103_ok h
theorem e103_pure {F : Orc} {f : Nat} (h : PureF F f) : PureF (e103 F) f := x103_pure h
abbrev E105 : Type := Int
def d105 : Td 0 E105 := .c [] [2] (.r 0 0 (ec 2 (qi .i64) en) sn (fun z => z.1.1) (fun x => ((x, ()), (()))) fun _ => rfl)
def A105 := (lc (qg 106) ln)
def x105 (M : GTerm → Option E105) : Orc → Orc := eL Tryz.prog 105 false A105 d105 (fun g => M g.1)
theorem x105_pure {M : GTerm → Option E105} {F : Orc} {f : Nat} (h : PureF F f) : PureF (x105 M F) f := orL_pure h (fun _ => by kernel_rfl)
def H105 (M : GTerm → Option E105) : Prop := HL Tryz.prog 105 A105 d105 (fun g => M g.1)
theorem x105_ok {M : GTerm → Option E105} (hM : H105 M) {F : Orc} (h : OrcG Tryz.prog F) : OrcG Tryz.prog (x105 M F) := eL_ok (sc := scU) scU_ok hM ⟨_, Tryz.func105, by kernel_rfl, by kernel_rfl⟩ (fun _ => by kernel_rfl) (fun _ => by kernel_rfl) h
def F105 (M105 : GTerm → Option E105) : Orc := (x105 M105 or0)
theorem F105_ok {M105} (h105 : H105 M105) : OrcG Tryz.prog (F105 M105) := (x105_ok h105 or0_g)
structure L105_0 where
 t3 : Int
 t4 : Int
 b0 : GTerm
def d105_0 : Td 0 L105_0 := .c [] [1, 3, 4] (.r 0 1 (ec 1 (qp 0 0) (ec 3 (qi .i64) (ec 4 (qi .i64) en))) (sb 0 106 (lg 106) sn) (fun z => ⟨z.1.2.1, z.1.2.2.1, z.2.1⟩) (fun x => (((), x.t3, x.t4, ()), (x.b0, ()))) fun _ => rfl)
def n105_0 (M105 : GTerm → Option E105) (p : L105_0) : Option (Option L105_0) :=
 bif decide (p.t4 < (↑p.b0.fKids.length : Int)) then if (0 : Int) ≤ p.t4 ∧ p.t4 < (↑p.b0.fKids.length : Int) then match M105 (GTerm.mk p.b0.fKids[p.t4.toNat]!.fOp p.b0.fKids[p.t4.toNat]!.fN p.b0.fKids[p.t4.toNat]!.fKids) with | none => none | some r1 => bif decide (p.t3 < r1) then some (some (L105_0.mk r1 (i64.wrap (p.t4 + 1)) (GTerm.mk p.b0.fOp p.b0.fN p.b0.fKids))) else some (some (L105_0.mk p.t3 (i64.wrap (p.t4 + 1)) (GTerm.mk p.b0.fOp p.b0.fN p.b0.fKids))) else none else some (none)
theorem q105_0 (M105 : GTerm → Option E105) (p : L105_0) : execA Tryz.prog (F105 M105) Tryz.f105.ntmps 300 (loopAt Tryz.f105 0) .no (Option L105_0) (d105_0.pat p) (kOn d105_0.rd) = n105_0 M105 p := by kernel_rfl
def a105_0 (M105 : GTerm → Option E105) : L105_0 → Option L105_0 := advG (n105_0 M105)
def an105 (M105 : GTerm → Option E105) : An := (.two .no (.two .no (.two (.two .no (d105_0.lp (a105_0 M105) .no)) .no)))
theorem fa105 (M105 : GTerm → Option E105) : FnAn Tryz.prog (F105 M105) 0 300 105 (an105 M105) := fnAn_of (l := [(loopAt Tryz.f105 0, (d105_0.lp (a105_0 M105) .no))]) Tryz.func105 (bodyOf_eq (by kernel_rfl)) (by kernel_rfl) (ob_cons ⟨d105_0.ok _, advG_ok (q105_0 M105)⟩ ob_nil)
def s105 (M105 : GTerm → Option E105) (a0 : GTerm) : Option E105 :=
 match a105_0 M105 (L105_0.mk (0) (0) (GTerm.mk a0.fOp a0.fN a0.fKids)) with | none => none | some r2 => bif decide (r2.t4 < (↑r2.b0.fKids.length : Int)) then if (0 : Int) ≤ r2.t4 ∧ r2.t4 < (↑r2.b0.fKids.length : Int) then match M105 (GTerm.mk r2.b0.fKids[r2.t4.toNat]!.fOp r2.b0.fKids[r2.t4.toNat]!.fN r2.b0.fKids[r2.t4.toNat]!.fKids) with | none => none | some r3 => bif decide (r2.t3 < r3) then none else none else none else some (i64.wrap (r2.t3 + 1))
theorem c105 (M105 : GTerm → Option E105) (a0 : GTerm) : callR Tryz.prog (F105 M105) 300 (an105 M105) 105 (A105.c (a0, ())) [] 0 d105.rd = s105 M105 a0 := by kernel_rfl
def mm105 : Nat → (GTerm → Option E105)
 | 0 => (fun _ => none)
 | n + 1 => (s105 (mm105 n))
def m105 (n : Nat) : GTerm → Option E105 := (mm105 n)
theorem mm105_ok : ∀ n, H105 (m105 n)
 | 0 => fun _ _ h => (by cases h)
 | n + 1 => by
  have ih := mm105_ok n
  have i105 := ih
  exact (hl_of (F105_ok i105) (fa105 (m105 n)) (fun _ => by kernel_rfl) (fun _ => by kernel_rfl) fun g => c105 (m105 n) g.1)
def r105 : GTerm → Option E105 := fun a0 => lim (fun n => m105 n a0)
theorem r105_ok : H105 r105 := fun g b h => by
 obtain ⟨n, hn⟩ := lim_some (show lim (fun n => m105 n g.1) = some b from h)
 exact (mm105_ok n) g b hn
def e105 (F : Orc) : Orc := x105 r105 F
theorem e105_ok {F : Orc} (h : OrcG Tryz.prog F) : OrcG Tryz.prog (e105 F) := x105_ok r105_ok h
theorem e105_pure {F : Orc} {f : Nat} (h : PureF F f) : PureF (e105 F) f := x105_pure h
abbrev E106 : Type := Int
def d106 : Td 0 E106 := .c [] [2] (.r 0 0 (ec 2 (qi .i64) en) sn (fun z => z.1.1) (fun x => ((x, ()), (()))) fun _ => rfl)
def A106 := (lc (ql 111) ln)
def x106 (M : (List GStep) → Option E106) : Orc → Orc := eL Tryz.prog 106 false A106 d106 (fun g => M g.1)
theorem x106_pure {M : (List GStep) → Option E106} {F : Orc} {f : Nat} (h : PureF F f) : PureF (x106 M F) f := orL_pure h (fun _ => by kernel_rfl)
def H106 (M : (List GStep) → Option E106) : Prop := HL Tryz.prog 106 A106 d106 (fun g => M g.1)
theorem x106_ok {M : (List GStep) → Option E106} (hM : H106 M) {F : Orc} (h : OrcG Tryz.prog F) : OrcG Tryz.prog (x106 M F) := eL_ok (sc := scU) scU_ok hM ⟨_, Tryz.func106, by kernel_rfl, by kernel_rfl⟩ (fun _ => by kernel_rfl) (fun _ => by kernel_rfl) h
def F106 (M106 : (List GStep) → Option E106) : Orc := (x106 M106 or0)
theorem F106_ok {M106} (h106 : H106 M106) : OrcG Tryz.prog (F106 M106) := (x106_ok h106 or0_g)
structure L106_0 where
 t0 : List GStep
 t3 : Int
 t4 : Int
def d106_0 : Td 0 L106_0 := .c [] [0, 3, 4] (.r 0 0 (ec 0 (ql 111) (ec 3 (qi .i64) (ec 4 (qi .i64) en))) sn (fun z => ⟨z.1.1, z.1.2.1, z.1.2.2.1⟩) (fun x => ((x.t0, x.t3, x.t4, ()), (()))) fun _ => rfl)
def n106_0 (M106 : (List GStep) → Option E106) (p : L106_0) : Option (Option L106_0) :=
 bif decide (p.t4 < (↑p.t0.length : Int)) then if (0 : Int) ≤ p.t4 ∧ p.t4 < (↑p.t0.length : Int) then match M106 p.t0[p.t4.toNat]!.fThen with | none => none | some r1 => if (0 : Int) ≤ p.t4 ∧ p.t4 < (↑p.t0.length : Int) then match M106 p.t0[p.t4.toNat]!.fElse with | none => none | some r2 => bif decide (p.t3 < i64.wrap (r1 + 1)) then bif decide (i64.wrap (r1 + 1) < i64.wrap (r2 + 1)) then some (some (L106_0.mk p.t0 (i64.wrap (r2 + 1)) (i64.wrap (p.t4 + 1)))) else some (some (L106_0.mk p.t0 (i64.wrap (r1 + 1)) (i64.wrap (p.t4 + 1)))) else bif decide (p.t3 < i64.wrap (r2 + 1)) then some (some (L106_0.mk p.t0 (i64.wrap (r2 + 1)) (i64.wrap (p.t4 + 1)))) else some (some (L106_0.mk p.t0 p.t3 (i64.wrap (p.t4 + 1)))) else none else none else some (none)
theorem q106_0 (M106 : (List GStep) → Option E106) (p : L106_0) : execA Tryz.prog (F106 M106) Tryz.f106.ntmps 300 (loopAt Tryz.f106 0) .no (Option L106_0) (d106_0.pat p) (kOn d106_0.rd) = n106_0 M106 p := by kernel_rfl
def a106_0 (M106 : (List GStep) → Option E106) : L106_0 → Option L106_0 := advG (n106_0 M106)
def an106 (M106 : (List GStep) → Option E106) : An := (.two .no (.two .no (.two (.two .no (d106_0.lp (a106_0 M106) .no)) .no)))
theorem fa106 (M106 : (List GStep) → Option E106) : FnAn Tryz.prog (F106 M106) 0 300 106 (an106 M106) := fnAn_of (l := [(loopAt Tryz.f106 0, (d106_0.lp (a106_0 M106) .no))]) Tryz.func106 (bodyOf_eq (by kernel_rfl)) (by kernel_rfl) (ob_cons ⟨d106_0.ok _, advG_ok (q106_0 M106)⟩ ob_nil)
def s106 (M106 : (List GStep) → Option E106) (a0 : List GStep) : Option E106 :=
 match a106_0 M106 (L106_0.mk a0 (0) (0)) with | none => none | some r3 => bif decide (r3.t4 < (↑r3.t0.length : Int)) then if (0 : Int) ≤ r3.t4 ∧ r3.t4 < (↑r3.t0.length : Int) then match M106 r3.t0[r3.t4.toNat]!.fThen with | none => none | some r4 => if (0 : Int) ≤ r3.t4 ∧ r3.t4 < (↑r3.t0.length : Int) then match M106 r3.t0[r3.t4.toNat]!.fElse with | none => none | some r5 => bif decide (r3.t3 < i64.wrap (r4 + 1)) then bif decide (i64.wrap (r4 + 1) < i64.wrap (r5 + 1)) then none else none else bif decide (r3.t3 < i64.wrap (r5 + 1)) then none else none else none else none else some (r3.t3)
theorem c106 (M106 : (List GStep) → Option E106) (a0 : List GStep) : callR Tryz.prog (F106 M106) 300 (an106 M106) 106 (A106.c (a0, ())) [] 0 d106.rd = s106 M106 a0 := by kernel_rfl
def mm106 : Nat → ((List GStep) → Option E106)
 | 0 => (fun _ => none)
 | n + 1 => (s106 (mm106 n))
def m106 (n : Nat) : (List GStep) → Option E106 := (mm106 n)
theorem mm106_ok : ∀ n, H106 (m106 n)
 | 0 => fun _ _ h => (by cases h)
 | n + 1 => by
  have ih := mm106_ok n
  have i106 := ih
  exact (hl_of (F106_ok i106) (fa106 (m106 n)) (fun _ => by kernel_rfl) (fun _ => by kernel_rfl) fun g => c106 (m106 n) g.1)
def r106 : (List GStep) → Option E106 := fun a0 => lim (fun n => m106 n a0)
theorem r106_ok : H106 r106 := fun g b h => by
 obtain ⟨n, hn⟩ := lim_some (show lim (fun n => m106 n g.1) = some b from h)
 exact (mm106_ok n) g b hn
def e106 (F : Orc) : Orc := x106 r106 F
theorem e106_ok {F : Orc} (h : OrcG Tryz.prog F) : OrcG Tryz.prog (e106 F) := x106_ok r106_ok h
theorem e106_pure {F : Orc} {f : Nat} (h : PureF F f) : PureF (e106 F) f := x106_pure h
abbrev E107 : Type := Bool
def d107 : Td 0 E107 := .c [] [2] (.r 0 0 (ec 2 qb en) sn (fun z => z.1.1) (fun x => ((x, ()), (()))) fun _ => rfl)
def A107 := (lc (ql 111) ln)
def x107 (M : (List GStep) → Option E107) : Orc → Orc := eL Tryz.prog 107 false A107 d107 (fun g => M g.1)
theorem x107_pure {M : (List GStep) → Option E107} {F : Orc} {f : Nat} (h : PureF F f) : PureF (x107 M F) f := orL_pure h (fun _ => by kernel_rfl)
def H107 (M : (List GStep) → Option E107) : Prop := HL Tryz.prog 107 A107 d107 (fun g => M g.1)
theorem x107_ok {M : (List GStep) → Option E107} (hM : H107 M) {F : Orc} (h : OrcG Tryz.prog F) : OrcG Tryz.prog (x107 M F) := eL_ok (sc := scU) scU_ok hM ⟨_, Tryz.func107, by kernel_rfl, by kernel_rfl⟩ (fun _ => by kernel_rfl) (fun _ => by kernel_rfl) h
def F107 (M107 : (List GStep) → Option E107) : Orc := (x107 M107 (e105 or0))
theorem F107_ok {M107} (h107 : H107 M107) : OrcG Tryz.prog (F107 M107) := (x107_ok h107 (e105_ok or0_g))
structure L107_0 where
 t0 : List GStep
 t3 : Int
def d107_0 : Td 0 L107_0 := .c [] [0, 3] (.r 0 0 (ec 0 (ql 111) (ec 3 (qi .i64) en)) sn (fun z => ⟨z.1.1, z.1.2.1⟩) (fun x => ((x.t0, x.t3, ()), (()))) fun _ => rfl)
def n107_0 (M107 : (List GStep) → Option E107) (p : L107_0) : Option (Option L107_0) :=
 bif decide (p.t3 < (↑p.t0.length : Int)) then match if (0 : Int) ≤ p.t3 ∧ p.t3 < (↑p.t0.length : Int) then match r105 (GTerm.mk p.t0[p.t3.toNat]!.fTerm.fOp p.t0[p.t3.toNat]!.fTerm.fN p.t0[p.t3.toNat]!.fTerm.fKids) with | none => none | some r1 => bif decide (12 < r1) then some (true) else if (0 : Int) ≤ p.t3 ∧ p.t3 < (↑p.t0.length : Int) then match M107 p.t0[p.t3.toNat]!.fThen with | none => none | some r2 => bif r2 then some (true) else if (0 : Int) ≤ p.t3 ∧ p.t3 < (↑p.t0.length : Int) then match M107 p.t0[p.t3.toNat]!.fElse with | none => none | some r3 => some (r3) else none else none else none with | none => none | some r4 => bif r4 then some (none) else some (some (L107_0.mk p.t0 (i64.wrap (p.t3 + 1)))) else some (none)
def g107_0 (M107 : (List GStep) → Option E107) : An := (.two .no (.two (.two (.rb [105, 107] 32) .no) .no))
theorem q107_0 (M107 : (List GStep) → Option E107) (p : L107_0) : execA Tryz.prog (F107 M107) Tryz.f107.ntmps 300 (loopAt Tryz.f107 0) (g107_0 M107) (Option L107_0) (d107_0.pat p) (kOn d107_0.rd) = n107_0 M107 p := by kernel_rfl
def a107_0 (M107 : (List GStep) → Option E107) : L107_0 → Option L107_0 := advG (n107_0 M107)
def an107 (M107 : (List GStep) → Option E107) : An := (.two .no (.two (.two .no (d107_0.lp (a107_0 M107) (g107_0 M107))) .no))
theorem pu107 {M107} : ∀ f ∈ ([105, 107] : List Nat), PureF (F107 M107) f := (ob_cons (x107_pure (e105_pure or0_pure)) (ob_cons (x107_pure (e105_pure or0_pure)) ob_nil))
theorem fa107 (M107 : (List GStep) → Option E107) : FnAn Tryz.prog (F107 M107) 0 300 107 (an107 M107) := fnAn_of (l := [(loopAt Tryz.f107 0, (d107_0.lp (a107_0 M107) (g107_0 M107))), (.skip, (.rb [105, 107] 32))]) Tryz.func107 (bodyOf_eq (by kernel_rfl)) (by kernel_rfl) (ob_cons ⟨d107_0.ok _, advG_ok (q107_0 M107)⟩ (ob_cons pu107 ob_nil))
def s107 (M107 : (List GStep) → Option E107) (a0 : List GStep) : Option E107 :=
 match a107_0 M107 (L107_0.mk a0 (0)) with | none => none | some r5 => bif decide (r5.t3 < (↑r5.t0.length : Int)) then match if (0 : Int) ≤ r5.t3 ∧ r5.t3 < (↑r5.t0.length : Int) then match r105 (GTerm.mk r5.t0[r5.t3.toNat]!.fTerm.fOp r5.t0[r5.t3.toNat]!.fTerm.fN r5.t0[r5.t3.toNat]!.fTerm.fKids) with | none => none | some r6 => bif decide (12 < r6) then some (true) else if (0 : Int) ≤ r5.t3 ∧ r5.t3 < (↑r5.t0.length : Int) then match M107 r5.t0[r5.t3.toNat]!.fThen with | none => none | some r7 => bif r7 then some (true) else if (0 : Int) ≤ r5.t3 ∧ r5.t3 < (↑r5.t0.length : Int) then match M107 r5.t0[r5.t3.toNat]!.fElse with | none => none | some r8 => some (r8) else none else none else none with | none => none | some r9 => bif r9 then some (true) else none else some (false)
theorem c107 (M107 : (List GStep) → Option E107) (a0 : List GStep) : callR Tryz.prog (F107 M107) 300 (an107 M107) 107 (A107.c (a0, ())) [] 0 d107.rd = s107 M107 a0 := by kernel_rfl
def mm107 : Nat → ((List GStep) → Option E107)
 | 0 => (fun _ => none)
 | n + 1 => (s107 (mm107 n))
def m107 (n : Nat) : (List GStep) → Option E107 := (mm107 n)
theorem mm107_ok : ∀ n, H107 (m107 n)
 | 0 => fun _ _ h => (by cases h)
 | n + 1 => by
  have ih := mm107_ok n
  have i107 := ih
  exact (hl_of (F107_ok i107) (fa107 (m107 n)) (fun _ => by kernel_rfl) (fun _ => by kernel_rfl) fun g => c107 (m107 n) g.1)
def r107 : (List GStep) → Option E107 := fun a0 => lim (fun n => m107 n a0)
theorem r107_ok : H107 r107 := fun g b h => by
 obtain ⟨n, hn⟩ := lim_some (show lim (fun n => m107 n g.1) = some b from h)
 exact (mm107_ok n) g b hn
def e107 (F : Orc) : Orc := x107 r107 F
theorem e107_ok {F : Orc} (h : OrcG Tryz.prog F) : OrcG Tryz.prog (e107 F) := x107_ok r107_ok h
theorem e107_pure {F : Orc} {f : Nat} (h : PureF F f) : PureF (e107 F) f := x107_pure h
def F50 : Orc := (e107 (e106 (e105 (e104 (e103 or0)))))
theorem F50_ok : OrcG Tryz.prog F50 := (e107_ok (e106_ok (e105_ok (e104_ok (e103_ok or0_g)))))
structure L50_0 where
 t3 : Int
 t4 : Int
 b0 : Flat
def d50_0 : Td 0 L50_0 := .c [] [1, 3, 4] (.r 0 1 (ec 1 (qp 0 0) (ec 3 (qi .i64) (ec 4 (qi .i64) en))) (sb 0 26 (lg 26) sn) (fun z => ⟨z.1.2.1, z.1.2.2.1, z.2.1⟩) (fun x => (((), x.t3, x.t4, ()), (x.b0, ()))) fun _ => rfl)
def n50_0 (p : L50_0) : Option (Option L50_0) :=
 bif decide (p.t4 < (↑p.b0.fHatches.length : Int)) then if (0 : Int) ≤ p.t4 ∧ p.t4 < (↑p.b0.fHatches.length : Int) then match r104 (GTerm.mk p.b0.fHatches[p.t4.toNat]!.fTerm.fOp p.b0.fHatches[p.t4.toNat]!.fTerm.fN p.b0.fHatches[p.t4.toNat]!.fTerm.fKids) with | none => none | some r1 => if (0 : Int) ≤ p.t4 ∧ p.t4 < (↑p.b0.fHatches.length : Int) then match r105 (GTerm.mk p.b0.fHatches[p.t4.toNat]!.fTerm.fOp p.b0.fHatches[p.t4.toNat]!.fTerm.fN p.b0.fHatches[p.t4.toNat]!.fTerm.fKids) with | none => none | some r2 => bif decide (12 < r2) then some (none) else some (some (L50_0.mk (i64.wrap (p.t3 + r1)) (i64.wrap (p.t4 + 1)) p.b0)) else none else none else some (none)
theorem q50_0 (p : L50_0) : execA Tryz.prog (F50) Tryz.f50.ntmps 300 (loopAt Tryz.f50 0) .no (Option L50_0) (d50_0.pat p) (kOn d50_0.rd) = n50_0 p := by kernel_rfl
def a50_0 : L50_0 → Option L50_0 := advG (n50_0)
abbrev E50 : Type := Bool
def d50 : Td 0 E50 := .c [] [2] (.r 0 0 (ec 2 qb en) sn (fun z => z.1.1) (fun x => ((x, ()), (()))) fun _ => rfl)
def A50 := (lc (qg 26) ln)
def an50 : An := (.two .no (.two (.two (.rb [106, 107] 14) .no) (.two .no (.two (.two .no (d50_0.lp a50_0 .no)) (.two (.rb [106, 107] 2) .no)))))
theorem pu50  : ∀ f ∈ ([106, 107] : List Nat), PureF (F50) f := (ob_cons (e107_pure (e106_pure (e105_pure (e104_pure (e103_pure or0_pure))))) (ob_cons (e107_pure (e106_pure (e105_pure (e104_pure (e103_pure or0_pure))))) ob_nil))
theorem fa50 : FnAn Tryz.prog (F50) 0 300 50 (an50) := fnAn_of (l := [(.skip, (.rb [106, 107] 14)), (loopAt Tryz.f50 0, (d50_0.lp a50_0 .no)), (.skip, (.rb [106, 107] 2))]) Tryz.func50 (bodyOf_eq (by kernel_rfl)) (by kernel_rfl) (ob_cons pu50 (ob_cons ⟨d50_0.ok _, advG_ok (q50_0)⟩ (ob_cons pu50 ob_nil)))
def m50 (a0 : Flat) : Option E50 :=
 match bif decide (64 < (↑a0.fVars.length : Int)) then some (true) else some (decide (8 < (↑a0.fHatches.length : Int))) with | none => none | some r3 => bif r3 then some (false) else match r103 a0.fBody with | none => none | some r4 => match a50_0 (L50_0.mk r4 (0) a0) with | none => none | some r5 => bif decide (r5.t4 < (↑r5.b0.fHatches.length : Int)) then if (0 : Int) ≤ r5.t4 ∧ r5.t4 < (↑r5.b0.fHatches.length : Int) then match r104 (GTerm.mk r5.b0.fHatches[r5.t4.toNat]!.fTerm.fOp r5.b0.fHatches[r5.t4.toNat]!.fTerm.fN r5.b0.fHatches[r5.t4.toNat]!.fTerm.fKids) with | none => none | some r6 => if (0 : Int) ≤ r5.t4 ∧ r5.t4 < (↑r5.b0.fHatches.length : Int) then match r105 (GTerm.mk r5.b0.fHatches[r5.t4.toNat]!.fTerm.fOp r5.b0.fHatches[r5.t4.toNat]!.fTerm.fN r5.b0.fHatches[r5.t4.toNat]!.fTerm.fKids) with | none => none | some r7 => bif decide (12 < r7) then some (false) else none else none else none else match bif decide (r5.t3 ≤ 1024) then match r106 r5.b0.fBody with | none => none | some r8 => bif decide (r8 ≤ 12) then match r107 r5.b0.fBody with | none => none | some r9 => some (bif r9 then false else true) else some (false) else some (false) with | none => none | some r10 => some (r10)
theorem c50 (a0 : Flat) : callR Tryz.prog (F50) 300 (an50) 50 (A50.c (a0, ())) [] 0 d50.rd = m50 a0 := by kernel_rfl
def e50 : Orc → Orc := eL Tryz.prog 50 false A50 d50 (fun g => m50 g.1)
theorem e50_ok {F : Orc} (h : OrcG Tryz.prog F) : OrcG Tryz.prog (e50 F) := eL_ok (sc := scU) scU_ok (hl_of F50_ok fa50 (fun _ => by kernel_rfl) (fun _ => by kernel_rfl) fun g => c50 g.1) ⟨_, Tryz.func50, by kernel_rfl, by kernel_rfl⟩ (fun _ => by kernel_rfl) (fun _ => by kernel_rfl) h
def F52 : Orc := or0
theorem F52_ok : OrcG Tryz.prog F52 := or0_g
structure L52_0 where
 t0 : ByteArray
 t3 : Int
def d52_0 : Td 0 L52_0 := .c [] [0, 3] (.r 0 0 (ec 0 qs (ec 3 (qi .i64) en)) sn (fun z => ⟨z.1.1, z.1.2.1⟩) (fun x => ((x.t0, x.t3, ()), (()))) fun _ => rfl)
def n52_0 (p : L52_0) : Option (Option L52_0) :=
 bif decide (p.t3 < (↑p.t0.size : Int)) then if (0 : Int) ≤ p.t3 ∧ p.t3 < (↑p.t0.size : Int) then match bif decide (97 ≤ byteAt p.t0 p.t3.toNat) then some (decide (byteAt p.t0 p.t3.toNat ≤ 122)) else some (false) with | none => none | some r1 => match bif decide (48 ≤ byteAt p.t0 p.t3.toNat) then bif decide (byteAt p.t0 p.t3.toNat ≤ 57) then some (true) else bif decide (byteAt p.t0 p.t3.toNat = 46) then some (true) else some (decide (byteAt p.t0 p.t3.toNat = 95)) else bif decide (byteAt p.t0 p.t3.toNat = 46) then some (true) else some (decide (byteAt p.t0 p.t3.toNat = 95)) with | none => none | some r2 => match bif bif r1 then false else true then bif decide (p.t3 = 0) then some (true) else some (bif r2 then false else true) else some (false) with | none => none | some r3 => bif r3 then some (none) else some (some (L52_0.mk p.t0 (i64.wrap (p.t3 + 1)))) else none else some (none)
def g52_0 : An := (.two .no (.two (.two .no (.two (.rb [] 5) (.two (.rb [] 6) (.two (.rb [] 53) .no)))) .no))
theorem q52_0 (p : L52_0) : execA Tryz.prog (F52) Tryz.f52.ntmps 300 (loopAt Tryz.f52 0) g52_0 (Option L52_0) (d52_0.pat p) (kOn d52_0.rd) = n52_0 p := by kernel_rfl
def a52_0 : L52_0 → Option L52_0 := advG (n52_0)
abbrev E52 : Type := Bool
def d52 : Td 0 E52 := .c [] [2] (.r 0 0 (ec 2 qb en) sn (fun z => z.1.1) (fun x => ((x, ()), (()))) fun _ => rfl)
def A52 := (lc qs ln)
def an52 : An := (.two .no (.two (.two (.rb [] 14) .no) (.two (.two .no (d52_0.lp a52_0 g52_0)) .no)))
theorem pu52  : ∀ f ∈ ([] : List Nat), PureF (F52) f := ob_nil
theorem fa52 : FnAn Tryz.prog (F52) 0 300 52 (an52) := fnAn_of (l := [(.skip, (.rb [] 14)), (loopAt Tryz.f52 0, (d52_0.lp a52_0 g52_0)), (.skip, (.rb [] 5)), (.skip, (.rb [] 6)), (.skip, (.rb [] 53))]) Tryz.func52 (bodyOf_eq (by kernel_rfl)) (by kernel_rfl) (ob_cons pu52 (ob_cons ⟨d52_0.ok _, advG_ok (q52_0)⟩ (ob_cons pu52 (ob_cons pu52 (ob_cons pu52 ob_nil)))))
def m52 (a0 : ByteArray) : Option E52 :=
 match bif decide ((↑a0.size : Int) < 1) then some (true) else some (decide (40 < (↑a0.size : Int))) with | none => none | some r4 => bif r4 then some (false) else match a52_0 (L52_0.mk a0 (0)) with | none => none | some r5 => bif decide (r5.t3 < (↑r5.t0.size : Int)) then if (0 : Int) ≤ r5.t3 ∧ r5.t3 < (↑r5.t0.size : Int) then match bif decide (97 ≤ byteAt r5.t0 r5.t3.toNat) then some (decide (byteAt r5.t0 r5.t3.toNat ≤ 122)) else some (false) with | none => none | some r6 => match bif decide (48 ≤ byteAt r5.t0 r5.t3.toNat) then bif decide (byteAt r5.t0 r5.t3.toNat ≤ 57) then some (true) else bif decide (byteAt r5.t0 r5.t3.toNat = 46) then some (true) else some (decide (byteAt r5.t0 r5.t3.toNat = 95)) else bif decide (byteAt r5.t0 r5.t3.toNat = 46) then some (true) else some (decide (byteAt r5.t0 r5.t3.toNat = 95)) with | none => none | some r7 => match bif bif r6 then false else true then bif decide (r5.t3 = 0) then some (true) else some (bif r7 then false else true) else some (false) with | none => none | some r8 => bif r8 then some (false) else none else none else some (true)
theorem c52 (a0 : ByteArray) : callR Tryz.prog (F52) 300 (an52) 52 (A52.c (a0, ())) [] 0 d52.rd = m52 a0 := by kernel_rfl
def e52 : Orc → Orc := eL Tryz.prog 52 false A52 d52 (fun g => m52 g.1)
theorem e52_ok {F : Orc} (h : OrcG Tryz.prog F) : OrcG Tryz.prog (e52 F) := eL_ok (sc := scU) scU_ok (hl_of F52_ok fa52 (fun _ => by kernel_rfl) (fun _ => by kernel_rfl) fun g => c52 g.1) ⟨_, Tryz.func52, by kernel_rfl, by kernel_rfl⟩ (fun _ => by kernel_rfl) (fun _ => by kernel_rfl) h
theorem e52_pure {F : Orc} {f : Nat} (h : PureF F f) : PureF (e52 F) f := orL_pure h (fun _ => by kernel_rfl)
def F53 : Orc := or0
theorem F53_ok : OrcG Tryz.prog F53 := or0_g
abbrev E53 : Type := Bool
def d53 : Td 0 E53 := .c [] [4] (.r 0 0 (ec 4 qb en) sn (fun z => z.1.1) (fun x => ((x, ()), (()))) fun _ => rfl)
def A53 := (lc (qi .i64) (lc (qi .i64) ln))
def an53 : An := (.two .no (.two (.rb [] 4) .no))
theorem pu53  : ∀ f ∈ ([] : List Nat), PureF (F53) f := ob_nil
theorem fa53 : FnAn Tryz.prog (F53) 0 300 53 (an53) := fnAn_of (l := [(.skip, (.rb [] 4))]) Tryz.func53 (bodyOf_eq (by kernel_rfl)) (by kernel_rfl) (ob_cons pu53 ob_nil)
def m53 (a0 : Int) (a1 : Int) : E53 :=
 let r1 : Bool := bif decide (a0 ≤ a1) then bif decide (-1048576 ≤ a0) then decide (a1 ≤ 1048576) else false else false; r1
theorem c53 (a0 : Int) (a1 : Int) : callR Tryz.prog (F53) 300 (an53) 53 (A53.c (a0, a1, ())) [] 0 d53.rd = some (m53 a0 a1) := by
 refine Eq.trans (b := (
  match bif decide (a0 ≤ a1) then bif decide (-1048576 ≤ a0) then some (decide (a1 ≤ 1048576)) else some (false) else some (false) with | none => none | some r1 => some (r1) : Option E53)) (by kernel_rfl) ?_
 simp only [m53, cond_some, ite_some]
def e53 : Orc → Orc := eL Tryz.prog 53 false A53 d53 (fun g => some (m53 g.1 g.2.1))
theorem e53_ok {F : Orc} (h : OrcG Tryz.prog F) : OrcG Tryz.prog (e53 F) := eL_ok (sc := scU) scU_ok (hl_of F53_ok fa53 (fun _ => by kernel_rfl) (fun _ => by kernel_rfl) fun g => c53 g.1 g.2.1) ⟨_, Tryz.func53, by kernel_rfl, by kernel_rfl⟩ (fun _ => by kernel_rfl) (fun _ => by kernel_rfl) h
theorem e53_pure {F : Orc} {f : Nat} (h : PureF F f) : PureF (e53 F) f := orL_pure h (fun _ => by kernel_rfl)
def F108 : Orc := or0
theorem F108_ok : OrcG Tryz.prog F108 := or0_g
structure L108_0 where
 t0 : List GVar
 t1 : Int
 t5 : Int
 t6 : Int
def d108_0 : Td 0 L108_0 := .c [] [0, 1, 5, 6] (.r 0 0 (ec 0 (ql 108) (ec 1 (qi .i64) (ec 5 (qi .i64) (ec 6 (qi .i64) en)))) sn (fun z => ⟨z.1.1, z.1.2.1, z.1.2.2.1, z.1.2.2.2.1⟩) (fun x => ((x.t0, x.t1, x.t5, x.t6, ()), (()))) fun _ => rfl)
def n108_0 (p : L108_0) : Option (Option L108_0) :=
 bif decide (p.t6 < (↑p.t0.length : Int)) then if (0 : Int) ≤ p.t6 ∧ p.t6 < (↑p.t0.length : Int) then bif bif decide (p.t0[p.t6.toNat]!.fKind = p.t1) then false else true then some (some (L108_0.mk p.t0 p.t1 p.t5 (i64.wrap (p.t6 + 1)))) else if (0 : Int) ≤ p.t6 ∧ p.t6 < (↑p.t0.length : Int) then if (0 : Int) ≤ p.t6 ∧ p.t6 < (↑p.t0.length : Int) then bif decide (4096 < i64.wrap (p.t5 * i64.wrap (i64.wrap (p.t0[p.t6.toNat]!.fHigh - p.t0[p.t6.toNat]!.fLow) + 1))) then some (none) else some (some (L108_0.mk p.t0 p.t1 (i64.wrap (p.t5 * i64.wrap (i64.wrap (p.t0[p.t6.toNat]!.fHigh - p.t0[p.t6.toNat]!.fLow) + 1))) (i64.wrap (p.t6 + 1)))) else none else none else none else some (none)
theorem q108_0 (p : L108_0) : execA Tryz.prog (F108) Tryz.f108.ntmps 300 (loopAt Tryz.f108 0) .no (Option L108_0) (d108_0.pat p) (kOn d108_0.rd) = n108_0 p := by kernel_rfl
def a108_0 : L108_0 → Option L108_0 := advG (n108_0)
abbrev E108 : Type := Int
def d108 : Td 0 E108 := .c [] [4] (.r 0 0 (ec 4 (qi .i64) en) sn (fun z => z.1.1) (fun x => ((x, ()), (()))) fun _ => rfl)
def A108 := (lc (ql 108) (lc (qi .i64) ln))
def an108 : An := (.two .no (.two .no (.two (.two .no (d108_0.lp a108_0 .no)) .no)))
theorem fa108 : FnAn Tryz.prog (F108) 0 300 108 (an108) := fnAn_of (l := [(loopAt Tryz.f108 0, (d108_0.lp a108_0 .no))]) Tryz.func108 (bodyOf_eq (by kernel_rfl)) (by kernel_rfl) (ob_cons ⟨d108_0.ok _, advG_ok (q108_0)⟩ ob_nil)
def m108 (a0 : List GVar) (a1 : Int) : Option E108 :=
 match a108_0 (L108_0.mk a0 a1 (1) (0)) with | none => none | some r1 => bif decide (r1.t6 < (↑r1.t0.length : Int)) then if (0 : Int) ≤ r1.t6 ∧ r1.t6 < (↑r1.t0.length : Int) then bif bif decide (r1.t0[r1.t6.toNat]!.fKind = r1.t1) then false else true then none else if (0 : Int) ≤ r1.t6 ∧ r1.t6 < (↑r1.t0.length : Int) then if (0 : Int) ≤ r1.t6 ∧ r1.t6 < (↑r1.t0.length : Int) then bif decide (4096 < i64.wrap (r1.t5 * i64.wrap (i64.wrap (r1.t0[r1.t6.toNat]!.fHigh - r1.t0[r1.t6.toNat]!.fLow) + 1))) then some (4097) else none else none else none else none else some (r1.t5)
theorem c108 (a0 : List GVar) (a1 : Int) : callR Tryz.prog (F108) 300 (an108) 108 (A108.c (a0, a1, ())) [] 0 d108.rd = m108 a0 a1 := by kernel_rfl
def e108 : Orc → Orc := eL Tryz.prog 108 false A108 d108 (fun g => m108 g.1 g.2.1)
theorem e108_ok {F : Orc} (h : OrcG Tryz.prog F) : OrcG Tryz.prog (e108 F) := eL_ok (sc := scU) scU_ok (hl_of F108_ok fa108 (fun _ => by kernel_rfl) (fun _ => by kernel_rfl) fun g => c108 g.1 g.2.1) ⟨_, Tryz.func108, by kernel_rfl, by kernel_rfl⟩ (fun _ => by kernel_rfl) (fun _ => by kernel_rfl) h
theorem e108_pure {F : Orc} {f : Nat} (h : PureF F f) : PureF (e108 F) f := orL_pure h (fun _ => by kernel_rfl)
def F51 : Orc := (e108 (e53 (e52 or0)))
theorem F51_ok : OrcG Tryz.prog F51 := (e108_ok (e53_ok (e52_ok or0_g)))
structure L51_1 where
 t0 : List GVar
 t3 : Int
 t5 : Int
 b0 : GVar
def d51_1 : Td 0 L51_1 := .c [] [0, 3, 4, 5] (.r 0 1 (ec 0 (ql 108) (ec 3 (qi .i64) (ec 4 (qp 0 0) (ec 5 (qi .i64) en)))) (sb 0 108 (lg 108) sn) (fun z => ⟨z.1.1, z.1.2.1, z.1.2.2.2.1, z.2.1⟩) (fun x => ((x.t0, x.t3, (), x.t5, ()), (x.b0, ()))) fun _ => rfl)
def n51_1 (p : L51_1) : Option (Option L51_1) :=
 bif decide (p.t5 < p.t3) then if (0 : Int) ≤ p.t5 ∧ p.t5 < (↑p.t0.length : Int) then bif p.t0[p.t5.toNat]!.fName.toList == p.b0.fName.toList then some (none) else some (some (L51_1.mk p.t0 p.t3 (i64.wrap (p.t5 + 1)) p.b0)) else none else some (none)
theorem q51_1 (p : L51_1) : execA Tryz.prog (F51) Tryz.f51.ntmps 300 (loopAt Tryz.f51 1) .no (Option L51_1) (d51_1.pat p) (kOn d51_1.rd) = n51_1 p := by kernel_rfl
def a51_1 : L51_1 → Option L51_1 := advG (n51_1)
structure L51_0 where
 t0 : List GVar
 t3 : Int
def d51_0 : Td 0 L51_0 := .c [] [0, 3] (.r 0 0 (ec 0 (ql 108) (ec 3 (qi .i64) en)) sn (fun z => ⟨z.1.1, z.1.2.1⟩) (fun x => ((x.t0, x.t3, ()), (()))) fun _ => rfl)
def n51_0 (p : L51_0) : Option (Option L51_0) :=
 bif decide (p.t3 < (↑p.t0.length : Int)) then if (0 : Int) ≤ p.t3 ∧ p.t3 < (↑p.t0.length : Int) then match m52 p.t0[p.t3.toNat]!.fName with | none => none | some r1 => bif bif r1 then false else true then some (none) else match a51_1 (L51_1.mk p.t0 p.t3 (0) p.t0[p.t3.toNat]!) with | none => none | some r2 => bif decide (r2.t5 < r2.t3) then if (0 : Int) ≤ r2.t5 ∧ r2.t5 < (↑r2.t0.length : Int) then bif r2.t0[r2.t5.toNat]!.fName.toList == r2.b0.fName.toList then some (none) else none else none else match bif bif decide (r2.b0.fKind = 0) then false else true then bif bif decide (r2.b0.fKind = 1) then false else true then bif bif decide (r2.b0.fKind = 2) then false else true then some (bif decide (r2.b0.fKind = 3) then false else true) else some (false) else some (false) else some (false) with | none => none | some r3 => bif r3 then some (none) else bif bif m53 r2.b0.fLow r2.b0.fHigh then false else true then some (none) else match bif decide (r2.b0.fKind = 0) then bif decide (r2.b0.fInit < r2.b0.fLow) then some (true) else bif decide (r2.b0.fHigh < r2.b0.fInit) then some (true) else bif bif decide (r2.b0.fKind = 0) then false else true then some (bif decide (r2.b0.fInit = 0) then false else true) else some (false) else bif bif decide (r2.b0.fKind = 0) then false else true then some (bif decide (r2.b0.fInit = 0) then false else true) else some (false) with | none => none | some r4 => bif r4 then some (none) else some (some (L51_0.mk r2.t0 (i64.wrap (r2.t3 + 1)))) else none else some (none)
def g51_0 : An := (.two .no (.two (.two .no (.two .no (.two (.two .no (d51_1.lp a51_1 .no)) (.two (.two (.rb [108] 50) .no) (.two .no (.two (.rb [108] 83) .no)))))) .no))
theorem q51_0 (p : L51_0) : execA Tryz.prog (F51) Tryz.f51.ntmps 300 (loopAt Tryz.f51 0) g51_0 (Option L51_0) (d51_0.pat p) (kOn d51_0.rd) = n51_0 p := by kernel_rfl
def a51_0 : L51_0 → Option L51_0 := advG (n51_0)
abbrev E51 : Type := Int
def d51 : Td 0 E51 := .c [] [2] (.r 0 0 (ec 2 (qi .i64) en) sn (fun z => z.1.1) (fun x => ((x, ()), (()))) fun _ => rfl)
def A51 := (lc (ql 108) ln)
def an51 : An := (.two .no (.two (.two .no (d51_0.lp a51_0 g51_0)) (.two (.two (.rb [108] 96) .no) .no)))
theorem pu51  : ∀ f ∈ ([108] : List Nat), PureF (F51) f := (ob_cons (e108_pure (e53_pure (e52_pure or0_pure))) ob_nil)
theorem fa51 : FnAn Tryz.prog (F51) 0 300 51 (an51) := fnAn_of (l := [(loopAt Tryz.f51 0, (d51_0.lp a51_0 g51_0)), (loopAt Tryz.f51 1, (d51_1.lp a51_1 .no)), (.skip, (.rb [108] 50)), (.skip, (.rb [108] 83)), (.skip, (.rb [108] 96))]) Tryz.func51 (bodyOf_eq (by kernel_rfl)) (by kernel_rfl) (ob_cons ⟨d51_0.ok _, advG_ok (q51_0)⟩ (ob_cons ⟨d51_1.ok _, advG_ok (q51_1)⟩ (ob_cons pu51 (ob_cons pu51 (ob_cons pu51 ob_nil)))))
def m51 (a0 : List GVar) : Option E51 :=
 match a51_0 (L51_0.mk a0 (0)) with | none => none | some r5 => bif decide (r5.t3 < (↑r5.t0.length : Int)) then if (0 : Int) ≤ r5.t3 ∧ r5.t3 < (↑r5.t0.length : Int) then match m52 r5.t0[r5.t3.toNat]!.fName with | none => none | some r6 => bif bif r6 then false else true then some (7) else match a51_1 (L51_1.mk r5.t0 r5.t3 (0) r5.t0[r5.t3.toNat]!) with | none => none | some r7 => bif decide (r7.t5 < r7.t3) then if (0 : Int) ≤ r7.t5 ∧ r7.t5 < (↑r7.t0.length : Int) then bif r7.t0[r7.t5.toNat]!.fName.toList == r7.b0.fName.toList then some (8) else none else none else match bif bif decide (r7.b0.fKind = 0) then false else true then bif bif decide (r7.b0.fKind = 1) then false else true then bif bif decide (r7.b0.fKind = 2) then false else true then some (bif decide (r7.b0.fKind = 3) then false else true) else some (false) else some (false) else some (false) with | none => none | some r8 => bif r8 then some (1) else bif bif m53 r7.b0.fLow r7.b0.fHigh then false else true then some (3) else match bif decide (r7.b0.fKind = 0) then bif decide (r7.b0.fInit < r7.b0.fLow) then some (true) else bif decide (r7.b0.fHigh < r7.b0.fInit) then some (true) else bif bif decide (r7.b0.fKind = 0) then false else true then some (bif decide (r7.b0.fInit = 0) then false else true) else some (false) else bif bif decide (r7.b0.fKind = 0) then false else true then some (bif decide (r7.b0.fInit = 0) then false else true) else some (false) with | none => none | some r9 => bif r9 then some (3) else none else none else match match m108 r5.t0 (1) with | none => none | some r10 => bif decide (4096 < r10) then some (true) else match m108 r5.t0 (2) with | none => none | some r11 => bif decide (4096 < r11) then some (true) else match m108 r5.t0 (3) with | none => none | some r12 => some (decide (256 < r12)) with | none => none | some r13 => bif r13 then some (4) else some (0)
theorem c51 (a0 : List GVar) : callR Tryz.prog (F51) 300 (an51) 51 (A51.c (a0, ())) [] 0 d51.rd = m51 a0 := by kernel_rfl
def e51 : Orc → Orc := eL Tryz.prog 51 false A51 d51 (fun g => m51 g.1)
theorem e51_ok {F : Orc} (h : OrcG Tryz.prog F) : OrcG Tryz.prog (e51 F) := eL_ok (sc := scU) scU_ok (hl_of F51_ok fa51 (fun _ => by kernel_rfl) (fun _ => by kernel_rfl) fun g => c51 g.1) ⟨_, Tryz.func51, by kernel_rfl, by kernel_rfl⟩ (fun _ => by kernel_rfl) (fun _ => by kernel_rfl) h
def F174 : Orc := or0
theorem F174_ok : OrcG Tryz.prog F174 := or0_g
abbrev E174 : Type := Int
def d174 : Td 0 E174 := .c [] [2] (.r 0 0 (ec 2 (qi .i64) en) sn (fun z => z.1.1) (fun x => ((x, ()), (()))) fun _ => rfl)
def A174 := (lc (qi .i64) ln)
def an174 : An := .no
theorem fa174 : FnAn Tryz.prog (F174) 0 300 174 (an174) := fnAn_of (l := []) Tryz.func174 (bodyOf_eq (by kernel_rfl)) (by kernel_rfl) ob_nil
def m174 (a0 : Int) : E174 :=
 bif decide (a0 = 0) then 0 else bif decide (a0 = 24) then 0 else bif decide (a0 = 6) then 1 else bif decide (a0 = 7) then 1 else bif decide (a0 = 8) then 2 else bif decide (a0 = 9) then 2 else bif decide (a0 = 10) then 2 else bif decide (a0 = 11) then 2 else bif decide (a0 = 12) then 2 else bif decide (a0 = 13) then 2 else bif decide (a0 = 14) then 2 else bif decide (a0 = 15) then 2 else bif decide (a0 = 16) then 2 else bif decide (a0 = 17) then 2 else bif decide (a0 = 18) then 2 else bif decide (a0 = 19) then 2 else bif decide (a0 = 20) then 2 else bif decide (a0 = 21) then 2 else bif decide (a0 = 22) then 2 else bif decide (a0 = 23) then 3 else bif decide (a0 = 25) then -2 else -1
theorem c174 (a0 : Int) : callR Tryz.prog (F174) 300 (an174) 174 (A174.c (a0, ())) [] 0 d174.rd = some (m174 a0) := by
 refine Eq.trans (b := (
  bif decide (a0 = 0) then some (0) else bif decide (a0 = 24) then some (0) else bif decide (a0 = 6) then some (1) else bif decide (a0 = 7) then some (1) else bif decide (a0 = 8) then some (2) else bif decide (a0 = 9) then some (2) else bif decide (a0 = 10) then some (2) else bif decide (a0 = 11) then some (2) else bif decide (a0 = 12) then some (2) else bif decide (a0 = 13) then some (2) else bif decide (a0 = 14) then some (2) else bif decide (a0 = 15) then some (2) else bif decide (a0 = 16) then some (2) else bif decide (a0 = 17) then some (2) else bif decide (a0 = 18) then some (2) else bif decide (a0 = 19) then some (2) else bif decide (a0 = 20) then some (2) else bif decide (a0 = 21) then some (2) else bif decide (a0 = 22) then some (2) else bif decide (a0 = 23) then some (3) else bif decide (a0 = 25) then some (-2) else some (-1) : Option E174)) (by kernel_rfl) ?_
 simp only [m174, cond_some, ite_some]
def e174 : Orc → Orc := eL Tryz.prog 174 false A174 d174 (fun g => some (m174 g.1))
theorem e174_ok {F : Orc} (h : OrcG Tryz.prog F) : OrcG Tryz.prog (e174 F) := eL_ok (sc := scU) scU_ok (hl_of F174_ok fa174 (fun _ => by kernel_rfl) (fun _ => by kernel_rfl) fun g => c174 g.1) ⟨_, Tryz.func174, by kernel_rfl, by kernel_rfl⟩ (fun _ => by kernel_rfl) (fun _ => by kernel_rfl) h
abbrev E109 : Type := Bool
def d109 : Td 0 E109 := .c [] [6] (.r 0 0 (ec 6 qb en) sn (fun z => z.1.1) (fun x => ((x, ()), (()))) fun _ => rfl)
def A109 := (lc (ql 108) (lc (qg 106) (lc qb ln)))
def x109 (M : (List GVar) → GTerm → Bool → Option E109) : Orc → Orc := eL Tryz.prog 109 false A109 d109 (fun g => M g.1 g.2.1 g.2.2.1)
def H109 (M : (List GVar) → GTerm → Bool → Option E109) : Prop := HL Tryz.prog 109 A109 d109 (fun g => M g.1 g.2.1 g.2.2.1)
theorem x109_ok {M : (List GVar) → GTerm → Bool → Option E109} (hM : H109 M) {F : Orc} (h : OrcG Tryz.prog F) : OrcG Tryz.prog (x109 M F) := eL_ok (sc := scU) scU_ok hM ⟨_, Tryz.func109, by kernel_rfl, by kernel_rfl⟩ (fun _ => by kernel_rfl) (fun _ => by kernel_rfl) h
def F109 (M109 : (List GVar) → GTerm → Bool → Option E109) : Orc := (e174 (x109 M109 or0))
theorem F109_ok {M109} (h109 : H109 M109) : OrcG Tryz.prog (F109 M109) := (e174_ok (x109_ok h109 or0_g))
structure L109_0 where
 t0 : List GVar
 t2 : Bool
 t8 : Int
 b0 : GTerm
def d109_0 : Td 0 L109_0 := .c [] [0, 2, 4, 8] (.r 0 1 (ec 0 (ql 108) (ec 2 qb (ec 4 (qp 0 0) (ec 8 (qi .i64) en)))) (sb 0 106 (lg 106) sn) (fun z => ⟨z.1.1, z.1.2.1, z.1.2.2.2.1, z.2.1⟩) (fun x => ((x.t0, x.t2, (), x.t8, ()), (x.b0, ()))) fun _ => rfl)
def n109_0 (M109 : (List GVar) → GTerm → Bool → Option E109) (p : L109_0) : Option (Option L109_0) :=
 bif decide (p.t8 < (↑p.b0.fKids.length : Int)) then if (0 : Int) ≤ p.t8 ∧ p.t8 < (↑p.b0.fKids.length : Int) then match M109 p.t0 (GTerm.mk p.b0.fKids[p.t8.toNat]!.fOp p.b0.fKids[p.t8.toNat]!.fN p.b0.fKids[p.t8.toNat]!.fKids) p.t2 with | none => none | some r1 => bif bif r1 then false else true then some (none) else some (some (L109_0.mk p.t0 p.t2 (i64.wrap (p.t8 + 1)) (GTerm.mk p.b0.fOp p.b0.fN p.b0.fKids))) else none else some (none)
theorem q109_0 (M109 : (List GVar) → GTerm → Bool → Option E109) (p : L109_0) : execA Tryz.prog (F109 M109) Tryz.f109.ntmps 300 (loopAt Tryz.f109 0) .no (Option L109_0) (d109_0.pat p) (kOn d109_0.rd) = n109_0 M109 p := by kernel_rfl
def a109_0 (M109 : (List GVar) → GTerm → Bool → Option E109) : L109_0 → Option L109_0 := advG (n109_0 M109)
def an109 (M109 : (List GVar) → GTerm → Bool → Option E109) : An := (.two .no (.two .no (.two (.two (.rb [] 40) .no) (.two (.two .no (.two (.two (.rb [] 65) .no) (.two (.rb [] 73) .no))) (.two (.two .no (d109_0.lp (a109_0 M109) .no)) .no)))))
theorem pu109 {M109} : ∀ f ∈ ([] : List Nat), PureF (F109 M109) f := ob_nil
theorem fa109 (M109 : (List GVar) → GTerm → Bool → Option E109) : FnAn Tryz.prog (F109 M109) 0 300 109 (an109 M109) := fnAn_of (l := [(.skip, (.rb [] 40)), (.skip, (.rb [] 65)), (.skip, (.rb [] 73)), (loopAt Tryz.f109 0, (d109_0.lp (a109_0 M109) .no))]) Tryz.func109 (bodyOf_eq (by kernel_rfl)) (by kernel_rfl) (ob_cons pu109 (ob_cons pu109 (ob_cons pu109 (ob_cons ⟨d109_0.ok _, advG_ok (q109_0 M109)⟩ ob_nil))))
def s109 (M109 : (List GVar) → GTerm → Bool → Option E109) (a0 : List GVar) (a1 : GTerm) (a2 : Bool) : Option E109 :=
 match bif decide (m174 a1.fOp = -1) then some (true) else bif decide (0 ≤ m174 a1.fOp) then bif bif decide ((↑a1.fKids.length : Int) = m174 a1.fOp) then false else true then some (true) else bif decide (m174 a1.fOp = -2) then bif decide ((↑a1.fKids.length : Int) < 2) then some (true) else some (decide (33 < (↑a1.fKids.length : Int))) else some (false) else bif decide (m174 a1.fOp = -2) then bif decide ((↑a1.fKids.length : Int) < 2) then some (true) else some (decide (33 < (↑a1.fKids.length : Int))) else some (false) with | none => none | some r2 => bif r2 then some (false) else bif decide (a1.fOp = 24) then match bif decide (a1.fN < 0) then some (true) else bif decide ((↑a0.length : Int) ≤ a1.fN) then some (true) else bif a2 then if (0 : Int) ≤ a1.fN ∧ a1.fN < (↑a0.length : Int) then some (decide (a0[a1.fN.toNat]!.fKind = 0)) else none else some (false) with | none => none | some r3 => bif r3 then some (false) else match a109_0 M109 (L109_0.mk a0 a2 (0) (GTerm.mk a1.fOp a1.fN a1.fKids)) with | none => none | some r4 => bif decide (r4.t8 < (↑r4.b0.fKids.length : Int)) then if (0 : Int) ≤ r4.t8 ∧ r4.t8 < (↑r4.b0.fKids.length : Int) then match M109 r4.t0 (GTerm.mk r4.b0.fKids[r4.t8.toNat]!.fOp r4.b0.fKids[r4.t8.toNat]!.fN r4.b0.fKids[r4.t8.toNat]!.fKids) r4.t2 with | none => none | some r5 => bif bif r5 then false else true then some (false) else none else none else some (true) else match bif bif decide (a1.fOp = 0) then false else true then some (bif decide (a1.fN = 0) then false else true) else some (false) with | none => none | some r6 => bif r6 then some (false) else match a109_0 M109 (L109_0.mk a0 a2 (0) (GTerm.mk a1.fOp a1.fN a1.fKids)) with | none => none | some r7 => bif decide (r7.t8 < (↑r7.b0.fKids.length : Int)) then if (0 : Int) ≤ r7.t8 ∧ r7.t8 < (↑r7.b0.fKids.length : Int) then match M109 r7.t0 (GTerm.mk r7.b0.fKids[r7.t8.toNat]!.fOp r7.b0.fKids[r7.t8.toNat]!.fN r7.b0.fKids[r7.t8.toNat]!.fKids) r7.t2 with | none => none | some r8 => bif bif r8 then false else true then some (false) else none else none else some (true)
theorem c109 (M109 : (List GVar) → GTerm → Bool → Option E109) (a0 : List GVar) (a1 : GTerm) (a2 : Bool) : callR Tryz.prog (F109 M109) 300 (an109 M109) 109 (A109.c (a0, a1, a2, ())) [] 0 d109.rd = s109 M109 a0 a1 a2 := by kernel_rfl
def mm109 : Nat → ((List GVar) → GTerm → Bool → Option E109)
 | 0 => (fun _ _ _ => none)
 | n + 1 => (s109 (mm109 n))
def m109 (n : Nat) : (List GVar) → GTerm → Bool → Option E109 := (mm109 n)
theorem mm109_ok : ∀ n, H109 (m109 n)
 | 0 => fun _ _ h => (by cases h)
 | n + 1 => by
  have ih := mm109_ok n
  have i109 := ih
  exact (hl_of (F109_ok i109) (fa109 (m109 n)) (fun _ => by kernel_rfl) (fun _ => by kernel_rfl) fun g => c109 (m109 n) g.1 g.2.1 g.2.2.1)
def r109 : (List GVar) → GTerm → Bool → Option E109 := fun a0 a1 a2 => lim (fun n => m109 n a0 a1 a2)
theorem r109_ok : H109 r109 := fun g b h => by
 obtain ⟨n, hn⟩ := lim_some (show lim (fun n => m109 n g.1 g.2.1 g.2.2.1) = some b from h)
 exact (mm109_ok n) g b hn
def e109 (F : Orc) : Orc := x109 r109 F
theorem e109_ok {F : Orc} (h : OrcG Tryz.prog F) : OrcG Tryz.prog (e109 F) := x109_ok r109_ok h
def F112 : Orc := or0
theorem F112_ok : OrcG Tryz.prog F112 := or0_g
abbrev E112 : Type := Int
def d112 : Td 0 E112 := .c [] [4] (.r 0 0 (ec 4 (qi .i64) en) sn (fun z => z.1.1) (fun x => ((x, ()), (()))) fun _ => rfl)
def A112 := (lc (qi .i64) (lc (qi .i64) ln))
def an112 : An := .no
theorem fa112 : FnAn Tryz.prog (F112) 0 300 112 (an112) := fnAn_of (l := []) Tryz.func112 (bodyOf_eq (by kernel_rfl)) (by kernel_rfl) ob_nil
def m112 (a0 : Int) (a1 : Int) : E112 :=
 bif decide (a1 < a0) then a0 else a1
theorem c112 (a0 : Int) (a1 : Int) : callR Tryz.prog (F112) 300 (an112) 112 (A112.c (a0, a1, ())) [] 0 d112.rd = some (m112 a0 a1) := by
 refine Eq.trans (b := (
  bif decide (a1 < a0) then some (a0) else some (a1) : Option E112)) (by kernel_rfl) ?_
 simp only [m112, cond_some, ite_some]
def e112 : Orc → Orc := eL Tryz.prog 112 false A112 d112 (fun g => some (m112 g.1 g.2.1))
theorem e112_ok {F : Orc} (h : OrcG Tryz.prog F) : OrcG Tryz.prog (e112 F) := eL_ok (sc := scU) scU_ok (hl_of F112_ok fa112 (fun _ => by kernel_rfl) (fun _ => by kernel_rfl) fun g => c112 g.1 g.2.1) ⟨_, Tryz.func112, by kernel_rfl, by kernel_rfl⟩ (fun _ => by kernel_rfl) (fun _ => by kernel_rfl) h
def F113 : Orc := or0
theorem F113_ok : OrcG Tryz.prog F113 := or0_g
abbrev E113 : Type := Int
def d113 : Td 0 E113 := .c [] [4] (.r 0 0 (ec 4 (qi .i64) en) sn (fun z => z.1.1) (fun x => ((x, ()), (()))) fun _ => rfl)
def A113 := (lc (qi .i64) (lc (qi .i64) ln))
def an113 : An := .no
theorem fa113 : FnAn Tryz.prog (F113) 0 300 113 (an113) := fnAn_of (l := []) Tryz.func113 (bodyOf_eq (by kernel_rfl)) (by kernel_rfl) ob_nil
def m113 (a0 : Int) (a1 : Int) : E113 :=
 bif decide (a0 < a1) then a0 else a1
theorem c113 (a0 : Int) (a1 : Int) : callR Tryz.prog (F113) 300 (an113) 113 (A113.c (a0, a1, ())) [] 0 d113.rd = some (m113 a0 a1) := by
 refine Eq.trans (b := (
  bif decide (a0 < a1) then some (a0) else some (a1) : Option E113)) (by kernel_rfl) ?_
 simp only [m113, cond_some, ite_some]
def e113 : Orc → Orc := eL Tryz.prog 113 false A113 d113 (fun g => some (m113 g.1 g.2.1))
theorem e113_ok {F : Orc} (h : OrcG Tryz.prog F) : OrcG Tryz.prog (e113 F) := eL_ok (sc := scU) scU_ok (hl_of F113_ok fa113 (fun _ => by kernel_rfl) (fun _ => by kernel_rfl) fun g => c113 g.1 g.2.1) ⟨_, Tryz.func113, by kernel_rfl, by kernel_rfl⟩ (fun _ => by kernel_rfl) (fun _ => by kernel_rfl) h
def F235 : Orc := or0
theorem F235_ok : OrcG Tryz.prog F235 := or0_g
abbrev E235 : Type := Int
def d235 : Td 0 E235 := .c [] [2] (.r 0 0 (ec 2 (qi .i64) en) sn (fun z => z.1.1) (fun x => ((x, ()), (()))) fun _ => rfl)
def A235 := (lc (qi .i64) ln)
def an235 : An := .no
theorem fa235 : FnAn Tryz.prog (F235) 0 300 235 (an235) := fnAn_of (l := []) Tryz.func235 (bodyOf_eq (by kernel_rfl)) (by kernel_rfl) ob_nil
def m235 (a0 : Int) : E235 :=
 bif decide (a0 < 0) then i64.wrap (0 - a0) else a0
theorem c235 (a0 : Int) : callR Tryz.prog (F235) 300 (an235) 235 (A235.c (a0, ())) [] 0 d235.rd = some (m235 a0) := by
 refine Eq.trans (b := (
  bif decide (a0 < 0) then some (i64.wrap (0 - a0)) else some (a0) : Option E235)) (by kernel_rfl) ?_
 simp only [m235, cond_some, ite_some]
def e235 : Orc → Orc := eL Tryz.prog 235 false A235 d235 (fun g => some (m235 g.1))
theorem e235_ok {F : Orc} (h : OrcG Tryz.prog F) : OrcG Tryz.prog (e235 F) := eL_ok (sc := scU) scU_ok (hl_of F235_ok fa235 (fun _ => by kernel_rfl) (fun _ => by kernel_rfl) fun g => c235 g.1) ⟨_, Tryz.func235, by kernel_rfl, by kernel_rfl⟩ (fun _ => by kernel_rfl) (fun _ => by kernel_rfl) h
def F236 : Orc := (e113 (e112 or0))
theorem F236_ok : OrcG Tryz.prog F236 := (e113_ok (e112_ok or0_g))
abbrev E236 : Type := Int × Int
def d236 : Td 0 E236 := .c [] [4, 5] (.r 0 0 (ec 4 (qi .i64) (ec 5 (qi .i64) en)) sn (fun z => (z.1.1, z.1.2.1)) (fun x => ((x.1, x.2, ()), (()))) fun _ => rfl)
def A236 := (lc (qi .i64) (lc (qi .i64) ln))
def an236 : An := .no
theorem fa236 : FnAn Tryz.prog (F236) 0 300 236 (an236) := fnAn_of (l := []) Tryz.func236 (bodyOf_eq (by kernel_rfl)) (by kernel_rfl) ob_nil
def m236 (a0 : Int) (a1 : Int) : E236 :=
 bif decide (a0 < 0) then bif decide (0 < a1) then (m113 (0) (i64.wrap (a0 + 1)), m112 (0) (i64.wrap (a1 - 1))) else (m113 (0) (i64.wrap (a0 + 1)), 0) else bif decide (0 < a1) then (0, m112 (0) (i64.wrap (a1 - 1))) else (0, 0)
theorem c236 (a0 : Int) (a1 : Int) : callR Tryz.prog (F236) 300 (an236) 236 (A236.c (a0, a1, ())) [] 0 d236.rd = some (m236 a0 a1) := by
 refine Eq.trans (b := (
  bif decide (a0 < 0) then bif decide (0 < a1) then some ((m113 (0) (i64.wrap (a0 + 1)), m112 (0) (i64.wrap (a1 - 1)))) else some ((m113 (0) (i64.wrap (a0 + 1)), 0)) else bif decide (0 < a1) then some ((0, m112 (0) (i64.wrap (a1 - 1)))) else some ((0, 0)) : Option E236)) (by kernel_rfl) ?_
 simp only [m236, cond_some, ite_some]
def e236 : Orc → Orc := eL Tryz.prog 236 false A236 d236 (fun g => some (m236 g.1 g.2.1))
theorem e236_ok {F : Orc} (h : OrcG Tryz.prog F) : OrcG Tryz.prog (e236 F) := eL_ok (sc := scU) scU_ok (hl_of F236_ok fa236 (fun _ => by kernel_rfl) (fun _ => by kernel_rfl) fun g => c236 g.1 g.2.1) ⟨_, Tryz.func236, by kernel_rfl, by kernel_rfl⟩ (fun _ => by kernel_rfl) (fun _ => by kernel_rfl) h
def F175 : Orc := (e236 (e235 (e113 (e112 or0))))
theorem F175_ok : OrcG Tryz.prog F175 := (e236_ok (e235_ok (e113_ok (e112_ok or0_g))))
structure L175_0 where
 t2 : List Int
 t3 : List Int
 t15 : Int
 t16 : Int
 t17 : Int
def d175_0 : Td 0 L175_0 := .c [] [2, 3, 15, 16, 17] (.r 0 0 (ec 2 (ql 3) (ec 3 (ql 3) (ec 15 (qi .i64) (ec 16 (qi .i64) (ec 17 (qi .i64) en))))) sn (fun z => ⟨z.1.1, z.1.2.1, z.1.2.2.1, z.1.2.2.2.1, z.1.2.2.2.2.1⟩) (fun x => ((x.t2, x.t3, x.t15, x.t16, x.t17, ()), (()))) fun _ => rfl)
def n175_0 (p : L175_0) : Option (Option L175_0) :=
 bif decide (p.t17 < (↑p.t2.length : Int)) then if (0 : Int) ≤ p.t17 ∧ p.t17 < (↑p.t2.length : Int) then if (0 : Int) ≤ p.t17 ∧ p.t17 < (↑p.t3.length : Int) then some (some (L175_0.mk p.t2 p.t3 (m113 p.t15 p.t2[p.t17.toNat]!) (m112 p.t16 p.t3[p.t17.toNat]!) (i64.wrap (p.t17 + 1)))) else none else none else some (none)
theorem q175_0 (p : L175_0) : execA Tryz.prog (F175) Tryz.f175.ntmps 300 (loopAt Tryz.f175 0) .no (Option L175_0) (d175_0.pat p) (kOn d175_0.rd) = n175_0 p := by kernel_rfl
def a175_0 : L175_0 → Option L175_0 := advG (n175_0)
abbrev E175 : Type := Int × Int
def d175 : Td 0 E175 := .c [] [8, 9] (.r 0 0 (ec 8 (qi .i64) (ec 9 (qi .i64) en)) sn (fun z => (z.1.1, z.1.2.1)) (fun x => ((x.1, x.2, ()), (()))) fun _ => rfl)
def A175 := (lc (ql 108) (lc (qg 106) (lc (ql 3) (lc (ql 3) ln))))
def an175 : An := (.two .no (.two (.two .no (.two .no (.two (.two (.two (.rb [] 29) .no) .no) (.two .no (.two .no (.two .no (.two .no (.two .no (.two .no (.two .no (.two .no (.two .no (.two .no (.two .no (.two (.two .no (.two (.two (.rb [] 154) .no) .no)) (.two .no (.two .no (.two .no (.two .no (.two .no (.two .no (.two .no (.two (.two .no (.two (.two .no (d175_0.lp a175_0 .no)) .no)) .no))))))))))))))))))))))) .no))
theorem pu175  : ∀ f ∈ ([] : List Nat), PureF (F175) f := ob_nil
theorem fa175 : FnAn Tryz.prog (F175) 0 300 175 (an175) := fnAn_of (l := [(.skip, (.rb [] 29)), (.skip, (.rb [] 154)), (loopAt Tryz.f175 0, (d175_0.lp a175_0 .no))]) Tryz.func175 (bodyOf_eq (by kernel_rfl)) (by kernel_rfl) (ob_cons pu175 (ob_cons pu175 (ob_cons ⟨d175_0.ok _, advG_ok (q175_0)⟩ ob_nil)))
def m175 (a0 : List GVar) (a1 : GTerm) (a2 : List Int) (a3 : List Int) : Option E175 :=
 bif decide (a1.fOp = 0) then match bif decide (a1.fN < -1048576) then some (true) else some (decide (1048576 < a1.fN)) with | none => none | some r1 => bif r1 then some ((-1048577, 1048577)) else some ((a1.fN, a1.fN)) else bif decide (a1.fOp = 24) then if (0 : Int) ≤ a1.fN ∧ a1.fN < (↑a0.length : Int) then if (0 : Int) ≤ a1.fN ∧ a1.fN < (↑a0.length : Int) then some ((a0[a1.fN.toNat]!.fLow, a0[a1.fN.toNat]!.fHigh)) else none else none else bif decide (a1.fOp = 6) then if (0 : Int) ≤ (0 : Int) ∧ (0 : Int) < (↑a3.length : Int) then if (0 : Int) ≤ (0 : Int) ∧ (0 : Int) < (↑a2.length : Int) then some ((i64.wrap (0 - a3[0]!), i64.wrap (0 - a2[0]!))) else none else none else bif decide (a1.fOp = 8) then if (0 : Int) ≤ (0 : Int) ∧ (0 : Int) < (↑a2.length : Int) then if (0 : Int) ≤ (1 : Int) ∧ (1 : Int) < (↑a2.length : Int) then if (0 : Int) ≤ (0 : Int) ∧ (0 : Int) < (↑a3.length : Int) then if (0 : Int) ≤ (1 : Int) ∧ (1 : Int) < (↑a3.length : Int) then some ((i64.wrap (a2[0]! + a2[1]!), i64.wrap (a3[0]! + a3[1]!))) else none else none else none else none else bif decide (a1.fOp = 9) then if (0 : Int) ≤ (0 : Int) ∧ (0 : Int) < (↑a2.length : Int) then if (0 : Int) ≤ (1 : Int) ∧ (1 : Int) < (↑a3.length : Int) then if (0 : Int) ≤ (0 : Int) ∧ (0 : Int) < (↑a3.length : Int) then if (0 : Int) ≤ (1 : Int) ∧ (1 : Int) < (↑a2.length : Int) then some ((i64.wrap (a2[0]! - a3[1]!), i64.wrap (a3[0]! - a2[1]!))) else none else none else none else none else bif decide (a1.fOp = 10) then if (0 : Int) ≤ (0 : Int) ∧ (0 : Int) < (↑a2.length : Int) then if (0 : Int) ≤ (1 : Int) ∧ (1 : Int) < (↑a2.length : Int) then if (0 : Int) ≤ (0 : Int) ∧ (0 : Int) < (↑a2.length : Int) then if (0 : Int) ≤ (1 : Int) ∧ (1 : Int) < (↑a3.length : Int) then if (0 : Int) ≤ (0 : Int) ∧ (0 : Int) < (↑a3.length : Int) then if (0 : Int) ≤ (1 : Int) ∧ (1 : Int) < (↑a2.length : Int) then if (0 : Int) ≤ (0 : Int) ∧ (0 : Int) < (↑a3.length : Int) then if (0 : Int) ≤ (1 : Int) ∧ (1 : Int) < (↑a3.length : Int) then some ((m113 (m113 (i64.wrap (a2[0]! * a2[1]!)) (i64.wrap (a2[0]! * a3[1]!))) (m113 (i64.wrap (a3[0]! * a2[1]!)) (i64.wrap (a3[0]! * a3[1]!))), m112 (m112 (i64.wrap (a2[0]! * a2[1]!)) (i64.wrap (a2[0]! * a3[1]!))) (m112 (i64.wrap (a3[0]! * a2[1]!)) (i64.wrap (a3[0]! * a3[1]!))))) else none else none else none else none else none else none else none else none else bif decide (a1.fOp = 11) then if (0 : Int) ≤ (0 : Int) ∧ (0 : Int) < (↑a2.length : Int) then if (0 : Int) ≤ (0 : Int) ∧ (0 : Int) < (↑a3.length : Int) then match if (0 : Int) ≤ (0 : Int) ∧ (0 : Int) < (↑a2.length : Int) then bif decide (0 ≤ a2[Int.toNat 0]!) then if (0 : Int) ≤ (1 : Int) ∧ (1 : Int) < (↑a2.length : Int) then some (decide (0 ≤ a2[Int.toNat 1]!)) else none else some (false) else none with | none => none | some r2 => bif r2 then some ((0, m112 (m235 a2[0]!) (m235 a3[0]!))) else some ((i64.wrap (0 - m112 (m235 a2[0]!) (m235 a3[0]!)), m112 (m235 a2[0]!) (m235 a3[0]!))) else none else none else bif decide (a1.fOp = 12) then if (0 : Int) ≤ (1 : Int) ∧ (1 : Int) < (↑a2.length : Int) then if (0 : Int) ≤ (1 : Int) ∧ (1 : Int) < (↑a3.length : Int) then some (m236 a2[1]! a3[1]!) else none else none else bif decide (a1.fOp = 21) then if (0 : Int) ≤ (0 : Int) ∧ (0 : Int) < (↑a2.length : Int) then if (0 : Int) ≤ (1 : Int) ∧ (1 : Int) < (↑a2.length : Int) then if (0 : Int) ≤ (0 : Int) ∧ (0 : Int) < (↑a3.length : Int) then if (0 : Int) ≤ (1 : Int) ∧ (1 : Int) < (↑a3.length : Int) then some ((m113 a2[0]! a2[1]!, m113 a3[0]! a3[1]!)) else none else none else none else none else bif decide (a1.fOp = 22) then if (0 : Int) ≤ (0 : Int) ∧ (0 : Int) < (↑a2.length : Int) then if (0 : Int) ≤ (1 : Int) ∧ (1 : Int) < (↑a2.length : Int) then if (0 : Int) ≤ (0 : Int) ∧ (0 : Int) < (↑a3.length : Int) then if (0 : Int) ≤ (1 : Int) ∧ (1 : Int) < (↑a3.length : Int) then some ((m112 a2[0]! a2[1]!, m112 a3[0]! a3[1]!)) else none else none else none else none else bif decide (a1.fOp = 23) then if (0 : Int) ≤ (1 : Int) ∧ (1 : Int) < (↑a2.length : Int) then if (0 : Int) ≤ (1 : Int) ∧ (1 : Int) < (↑a3.length : Int) then match a175_0 (L175_0.mk a2 a3 a2[1]! a3[1]! (2)) with | none => none | some r3 => bif decide (r3.t17 < (↑r3.t2.length : Int)) then if (0 : Int) ≤ r3.t17 ∧ r3.t17 < (↑r3.t2.length : Int) then if (0 : Int) ≤ r3.t17 ∧ r3.t17 < (↑r3.t3.length : Int) then none else none else none else some ((r3.t15, r3.t16)) else none else none else bif decide (a1.fOp = 25) then if (0 : Int) ≤ (1 : Int) ∧ (1 : Int) < (↑a2.length : Int) then if (0 : Int) ≤ (1 : Int) ∧ (1 : Int) < (↑a3.length : Int) then match a175_0 (L175_0.mk a2 a3 a2[1]! a3[1]! (2)) with | none => none | some r4 => bif decide (r4.t17 < (↑r4.t2.length : Int)) then if (0 : Int) ≤ r4.t17 ∧ r4.t17 < (↑r4.t2.length : Int) then if (0 : Int) ≤ r4.t17 ∧ r4.t17 < (↑r4.t3.length : Int) then none else none else none else some ((r4.t15, r4.t16)) else none else none else some ((0, 1))
theorem c175 (a0 : List GVar) (a1 : GTerm) (a2 : List Int) (a3 : List Int) : callR Tryz.prog (F175) 300 (an175) 175 (A175.c (a0, a1, a2, a3, ())) [] 0 d175.rd = m175 a0 a1 a2 a3 := by kernel_rfl
def e175 : Orc → Orc := eL Tryz.prog 175 false A175 d175 (fun g => m175 g.1 g.2.1 g.2.2.1 g.2.2.2.1)
theorem e175_ok {F : Orc} (h : OrcG Tryz.prog F) : OrcG Tryz.prog (e175 F) := eL_ok (sc := scU) scU_ok (hl_of F175_ok fa175 (fun _ => by kernel_rfl) (fun _ => by kernel_rfl) fun g => c175 g.1 g.2.1 g.2.2.1 g.2.2.2.1) ⟨_, Tryz.func175, by kernel_rfl, by kernel_rfl⟩ (fun _ => by kernel_rfl) (fun _ => by kernel_rfl) h
abbrev E110 : Type := Int × Int × Bool
def d110 : Td 0 E110 := .c [] [4, 5, 6] (.r 0 0 (ec 4 (qi .i64) (ec 5 (qi .i64) (ec 6 qb en))) sn (fun z => (z.1.1, z.1.2.1, z.1.2.2.1)) (fun x => ((x.1, x.2.1, x.2.2, ()), (()))) fun _ => rfl)
def A110 := (lc (ql 108) (lc (qg 106) ln))
def x110 (M : (List GVar) → GTerm → Option E110) : Orc → Orc := eL Tryz.prog 110 false A110 d110 (fun g => M g.1 g.2.1)
def H110 (M : (List GVar) → GTerm → Option E110) : Prop := HL Tryz.prog 110 A110 d110 (fun g => M g.1 g.2.1)
theorem x110_ok {M : (List GVar) → GTerm → Option E110} (hM : H110 M) {F : Orc} (h : OrcG Tryz.prog F) : OrcG Tryz.prog (x110 M F) := eL_ok (sc := scU) scU_ok hM ⟨_, Tryz.func110, by kernel_rfl, by kernel_rfl⟩ (fun _ => by kernel_rfl) (fun _ => by kernel_rfl) h
def F110 (M110 : (List GVar) → GTerm → Option E110) : Orc := (e175 (x110 M110 or0))
theorem F110_ok {M110} (h110 : H110 M110) : OrcG Tryz.prog (F110 M110) := (e175_ok (x110_ok h110 or0_g))
structure L110_0 where
 t0 : List GVar
 t7 : List Int
 t8 : List Int
 t9 : Int
 b0 : GTerm
def d110_0 : Td 0 L110_0 := .c [] [0, 3, 7, 8, 9] (.r 0 3 (ec 0 (ql 108) (ec 3 (qp 0 0) (ec 7 (qo 1) (ec 8 (qo 2) (ec 9 (qi .i64) en))))) (sb 0 106 (lg 106) (sr 1 3 (sr 2 3 sn))) (fun z => ⟨z.1.1, z.2.2.1, z.2.2.2.1, z.1.2.2.2.2.1, z.2.1⟩) (fun x => ((x.t0, (), (), (), x.t9, ()), (x.b0, x.t7, x.t8, ()))) fun _ => rfl)
def n110_0 (M110 : (List GVar) → GTerm → Option E110) (p : L110_0) : Option (Option L110_0) :=
 bif decide (p.t9 < (↑p.b0.fKids.length : Int)) then if (0 : Int) ≤ p.t9 ∧ p.t9 < (↑p.b0.fKids.length : Int) then match M110 p.t0 (GTerm.mk p.b0.fKids[p.t9.toNat]!.fOp p.b0.fKids[p.t9.toNat]!.fN p.b0.fKids[p.t9.toNat]!.fKids) with | none => none | some r1 => bif bif r1.snd.snd then false else true then some (none) else if (p.t7 ++ [r1.fst]).length ≤ 1073741824 then if (p.t8 ++ [r1.snd.fst]).length ≤ 1073741824 then some (some (L110_0.mk p.t0 (p.t7 ++ [r1.fst]) (p.t8 ++ [r1.snd.fst]) (i64.wrap (p.t9 + 1)) (GTerm.mk p.b0.fOp p.b0.fN p.b0.fKids))) else none else none else none else some (none)
theorem q110_0 (M110 : (List GVar) → GTerm → Option E110) (p : L110_0) : execA Tryz.prog (F110 M110) Tryz.f110.ntmps 300 (loopAt Tryz.f110 0) .no (Option L110_0) (d110_0.pat p) (kOn d110_0.rd) = n110_0 M110 p := by kernel_rfl
def a110_0 (M110 : (List GVar) → GTerm → Option E110) : L110_0 → Option L110_0 := advG (n110_0 M110)
def an110 (M110 : (List GVar) → GTerm → Option E110) : An := (.two .no (.two .no (.two .no (.two (.two .no (d110_0.lp (a110_0 M110) .no)) .no))))
theorem fa110 (M110 : (List GVar) → GTerm → Option E110) : FnAn Tryz.prog (F110 M110) 0 300 110 (an110 M110) := fnAn_of (l := [(loopAt Tryz.f110 0, (d110_0.lp (a110_0 M110) .no))]) Tryz.func110 (bodyOf_eq (by kernel_rfl)) (by kernel_rfl) (ob_cons ⟨d110_0.ok _, advG_ok (q110_0 M110)⟩ ob_nil)
def s110 (M110 : (List GVar) → GTerm → Option E110) (a0 : List GVar) (a1 : GTerm) : Option E110 :=
 match a110_0 M110 (L110_0.mk a0 [] [] (0) (GTerm.mk a1.fOp a1.fN a1.fKids)) with | none => none | some r2 => bif decide (r2.t9 < (↑r2.b0.fKids.length : Int)) then if (0 : Int) ≤ r2.t9 ∧ r2.t9 < (↑r2.b0.fKids.length : Int) then match M110 r2.t0 (GTerm.mk r2.b0.fKids[r2.t9.toNat]!.fOp r2.b0.fKids[r2.t9.toNat]!.fN r2.b0.fKids[r2.t9.toNat]!.fKids) with | none => none | some r3 => bif bif r3.snd.snd then false else true then some ((0, 0, false)) else if (r2.t7 ++ [r3.fst]).length ≤ 1073741824 then if (r2.t8 ++ [r3.snd.fst]).length ≤ 1073741824 then none else none else none else none else match m175 r2.t0 (GTerm.mk r2.b0.fOp r2.b0.fN r2.b0.fKids) r2.t7 r2.t8 with | none => none | some r4 => bif decide (-1048576 ≤ r4.fst) then some ((r4.fst, r4.snd, decide (r4.snd ≤ 1048576))) else some ((r4.fst, r4.snd, false))
theorem c110 (M110 : (List GVar) → GTerm → Option E110) (a0 : List GVar) (a1 : GTerm) : callR Tryz.prog (F110 M110) 300 (an110 M110) 110 (A110.c (a0, a1, ())) [] 0 d110.rd = s110 M110 a0 a1 := by kernel_rfl
def mm110 : Nat → ((List GVar) → GTerm → Option E110)
 | 0 => (fun _ _ => none)
 | n + 1 => (s110 (mm110 n))
def m110 (n : Nat) : (List GVar) → GTerm → Option E110 := (mm110 n)
theorem mm110_ok : ∀ n, H110 (m110 n)
 | 0 => fun _ _ h => (by cases h)
 | n + 1 => by
  have ih := mm110_ok n
  have i110 := ih
  exact (hl_of (F110_ok i110) (fa110 (m110 n)) (fun _ => by kernel_rfl) (fun _ => by kernel_rfl) fun g => c110 (m110 n) g.1 g.2.1)
def r110 : (List GVar) → GTerm → Option E110 := fun a0 a1 => lim (fun n => m110 n a0 a1)
theorem r110_ok : H110 r110 := fun g b h => by
 obtain ⟨n, hn⟩ := lim_some (show lim (fun n => m110 n g.1 g.2.1) = some b from h)
 exact (mm110_ok n) g b hn
def e110 (F : Orc) : Orc := x110 r110 F
theorem e110_ok {F : Orc} (h : OrcG Tryz.prog F) : OrcG Tryz.prog (e110 F) := x110_ok r110_ok h
def F54 : Orc := (e110 (e109 or0))
theorem F54_ok : OrcG Tryz.prog F54 := (e110_ok (e109_ok or0_g))
abbrev E54 : Type := Int
def d54 : Td 0 E54 := .c [] [6] (.r 0 0 (ec 6 (qi .i64) en) sn (fun z => z.1.1) (fun x => ((x, ()), (()))) fun _ => rfl)
def A54 := (lc (ql 108) (lc (qg 106) (lc qb ln)))
def an54 : An := .no
theorem fa54 : FnAn Tryz.prog (F54) 0 300 54 (an54) := fnAn_of (l := []) Tryz.func54 (bodyOf_eq (by kernel_rfl)) (by kernel_rfl) ob_nil
def m54 (a0 : List GVar) (a1 : GTerm) (a2 : Bool) : Option E54 :=
 match r109 a0 (GTerm.mk a1.fOp a1.fN a1.fKids) a2 with | none => none | some r1 => bif bif r1 then false else true then some (1) else match r110 a0 (GTerm.mk a1.fOp a1.fN a1.fKids) with | none => none | some r2 => bif bif r2.snd.snd then false else true then some (3) else some (0)
theorem c54 (a0 : List GVar) (a1 : GTerm) (a2 : Bool) : callR Tryz.prog (F54) 300 (an54) 54 (A54.c (a0, a1, a2, ())) [] 0 d54.rd = m54 a0 a1 a2 := by kernel_rfl
def e54 : Orc → Orc := eL Tryz.prog 54 false A54 d54 (fun g => m54 g.1 g.2.1 g.2.2.1)
theorem e54_ok {F : Orc} (h : OrcG Tryz.prog F) : OrcG Tryz.prog (e54 F) := eL_ok (sc := scU) scU_ok (hl_of F54_ok fa54 (fun _ => by kernel_rfl) (fun _ => by kernel_rfl) fun g => c54 g.1 g.2.1 g.2.2.1) ⟨_, Tryz.func54, by kernel_rfl, by kernel_rfl⟩ (fun _ => by kernel_rfl) (fun _ => by kernel_rfl) h
theorem e54_pure {F : Orc} {f : Nat} (h : PureF F f) : PureF (e54 F) f := orL_pure h (fun _ => by kernel_rfl)
def F176 : Orc := or0
theorem F176_ok : OrcG Tryz.prog F176 := or0_g
abbrev E176 : Type := Bool
def d176 : Td 0 E176 := .c [] [2] (.r 0 0 (ec 2 qb en) sn (fun z => z.1.1) (fun x => ((x, ()), (()))) fun _ => rfl)
def A176 := (lc (qg 106) ln)
def an176 : An := (.two .no (.two (.rb [] 2) .no))
theorem pu176  : ∀ f ∈ ([] : List Nat), PureF (F176) f := ob_nil
theorem fa176 : FnAn Tryz.prog (F176) 0 300 176 (an176) := fnAn_of (l := [(.skip, (.rb [] 2))]) Tryz.func176 (bodyOf_eq (by kernel_rfl)) (by kernel_rfl) (ob_cons pu176 ob_nil)
def m176 (a0 : GTerm) : E176 :=
 let r1 : Bool := bif decide (a0.fOp = 0) then bif decide (a0.fN = 0) then decide ((↑a0.fKids.length : Int) = 0) else false else false; r1
theorem c176 (a0 : GTerm) : callR Tryz.prog (F176) 300 (an176) 176 (A176.c (a0, ())) [] 0 d176.rd = some (m176 a0) := by
 refine Eq.trans (b := (
  match bif decide (a0.fOp = 0) then bif decide (a0.fN = 0) then some (decide ((↑a0.fKids.length : Int) = 0)) else some (false) else some (false) with | none => none | some r1 => some (r1) : Option E176)) (by kernel_rfl) ?_
 simp only [m176, cond_some, ite_some]
def e176 : Orc → Orc := eL Tryz.prog 176 false A176 d176 (fun g => some (m176 g.1))
theorem e176_ok {F : Orc} (h : OrcG Tryz.prog F) : OrcG Tryz.prog (e176 F) := eL_ok (sc := scU) scU_ok (hl_of F176_ok fa176 (fun _ => by kernel_rfl) (fun _ => by kernel_rfl) fun g => c176 g.1) ⟨_, Tryz.func176, by kernel_rfl, by kernel_rfl⟩ (fun _ => by kernel_rfl) (fun _ => by kernel_rfl) h
theorem e176_pure {F : Orc} {f : Nat} (h : PureF F f) : PureF (e176 F) f := orL_pure h (fun _ => by kernel_rfl)
def F177 : Orc := or0
theorem F177_ok : OrcG Tryz.prog F177 := or0_g
structure L177_0 where
 t0 : List Int
 t3 : Int
def d177_0 : Td 0 L177_0 := .c [] [0, 3] (.r 0 0 (ec 0 (ql 3) (ec 3 (qi .i64) en)) sn (fun z => ⟨z.1.1, z.1.2.1⟩) (fun x => ((x.t0, x.t3, ()), (()))) fun _ => rfl)
def n177_0 (p : L177_0) : Option (Option L177_0) :=
 bif decide (p.t3 < (↑p.t0.length : Int)) then if (0 : Int) ≤ p.t3 ∧ p.t3 < (↑p.t0.length : Int) then if (0 : Int) ≤ i64.wrap (p.t3 - (1 : Int)) ∧ i64.wrap (p.t3 - (1 : Int)) < (↑p.t0.length : Int) then bif decide (p.t0[p.t3.toNat]! ≤ p.t0[(i64.wrap (p.t3 - 1)).toNat]!) then some (none) else some (some (L177_0.mk p.t0 (i64.wrap (p.t3 + 1)))) else none else none else some (none)
theorem q177_0 (p : L177_0) : execA Tryz.prog (F177) Tryz.f177.ntmps 300 (loopAt Tryz.f177 0) .no (Option L177_0) (d177_0.pat p) (kOn d177_0.rd) = n177_0 p := by kernel_rfl
def a177_0 : L177_0 → Option L177_0 := advG (n177_0)
abbrev E177 : Type := Bool
def d177 : Td 0 E177 := .c [] [2] (.r 0 0 (ec 2 qb en) sn (fun z => z.1.1) (fun x => ((x, ()), (()))) fun _ => rfl)
def A177 := (lc (ql 3) ln)
def an177 : An := (.two .no (.two (.two (.rb [] 17) .no) (.two (.two .no (d177_0.lp a177_0 .no)) .no)))
theorem pu177  : ∀ f ∈ ([] : List Nat), PureF (F177) f := ob_nil
theorem fa177 : FnAn Tryz.prog (F177) 0 300 177 (an177) := fnAn_of (l := [(.skip, (.rb [] 17)), (loopAt Tryz.f177 0, (d177_0.lp a177_0 .no))]) Tryz.func177 (bodyOf_eq (by kernel_rfl)) (by kernel_rfl) (ob_cons pu177 (ob_cons ⟨d177_0.ok _, advG_ok (q177_0)⟩ ob_nil))
def m177 (a0 : List Int) : Option E177 :=
 match bif decide ((↑a0.length : Int) < 1) then some (true) else bif decide (32 < (↑a0.length : Int)) then some (true) else if (0 : Int) ≤ (0 : Int) ∧ (0 : Int) < (↑a0.length : Int) then some (decide (a0[Int.toNat 0]! < 0)) else none with | none => none | some r1 => bif r1 then some (false) else match a177_0 (L177_0.mk a0 (1)) with | none => none | some r2 => bif decide (r2.t3 < (↑r2.t0.length : Int)) then if (0 : Int) ≤ r2.t3 ∧ r2.t3 < (↑r2.t0.length : Int) then if (0 : Int) ≤ i64.wrap (r2.t3 - (1 : Int)) ∧ i64.wrap (r2.t3 - (1 : Int)) < (↑r2.t0.length : Int) then bif decide (r2.t0[r2.t3.toNat]! ≤ r2.t0[(i64.wrap (r2.t3 - 1)).toNat]!) then some (false) else none else none else none else some (true)
theorem c177 (a0 : List Int) : callR Tryz.prog (F177) 300 (an177) 177 (A177.c (a0, ())) [] 0 d177.rd = m177 a0 := by kernel_rfl
def e177 : Orc → Orc := eL Tryz.prog 177 false A177 d177 (fun g => m177 g.1)
theorem e177_ok {F : Orc} (h : OrcG Tryz.prog F) : OrcG Tryz.prog (e177 F) := eL_ok (sc := scU) scU_ok (hl_of F177_ok fa177 (fun _ => by kernel_rfl) (fun _ => by kernel_rfl) fun g => c177 g.1) ⟨_, Tryz.func177, by kernel_rfl, by kernel_rfl⟩ (fun _ => by kernel_rfl) (fun _ => by kernel_rfl) h
theorem e177_pure {F : Orc} {f : Nat} (h : PureF F f) : PureF (e177 F) f := orL_pure h (fun _ => by kernel_rfl)
def F111 : Orc := (e177 (e176 or0))
theorem F111_ok : OrcG Tryz.prog F111 := (e177_ok (e176_ok or0_g))
abbrev E111 : Type := Bool
def d111 : Td 0 E111 := .c [] [6] (.r 0 0 (ec 6 qb en) sn (fun z => z.1.1) (fun x => ((x, ()), (()))) fun _ => rfl)
def A111 := (lc (qg 26) (lc (qg 111) (lc qb ln)))
def an111 : An := (.two .no (.two (.rb [176, 177] 7) (.two (.rb [176, 177] 8) (.two (.two .no (.two .no (.two (.two (.rb [176, 177] 6) .no) (.two .no (.two (.two (.rb [176, 177] 6) .no) (.two .no (.two (.two (.rb [176, 177] 6) .no) (.two .no (.two (.two (.rb [176, 177] 6) .no) (.two .no (.two (.two (.rb [176, 177] 6) .no) (.two .no (.two (.two (.rb [176, 177] 6) .no) (.two .no (.two (.two (.rb [176, 177] 6) .no) .no))))))))))))))) .no))))
theorem pu111  : ∀ f ∈ ([176, 177] : List Nat), PureF (F111) f := (ob_cons (e177_pure (e176_pure or0_pure)) (ob_cons (e177_pure (e176_pure or0_pure)) ob_nil))
theorem fa111 : FnAn Tryz.prog (F111) 0 300 111 (an111) := fnAn_of (l := [(.skip, (.rb [176, 177] 7)), (.skip, (.rb [176, 177] 8)), (.skip, (.rb [176, 177] 6)), (.skip, (.rb [176, 177] 6)), (.skip, (.rb [176, 177] 6)), (.skip, (.rb [176, 177] 6)), (.skip, (.rb [176, 177] 6)), (.skip, (.rb [176, 177] 6)), (.skip, (.rb [176, 177] 6))]) Tryz.func111 (bodyOf_eq (by kernel_rfl)) (by kernel_rfl) (ob_cons pu111 (ob_cons pu111 (ob_cons pu111 (ob_cons pu111 (ob_cons pu111 (ob_cons pu111 (ob_cons pu111 (ob_cons pu111 (ob_cons pu111 ob_nil)))))))))
def m111 (a0 : Flat) (a1 : GStep) (a2 : Bool) : Option E111 :=
 match bif decide ((↑a1.fThen.length : Int) = 0) then some (decide ((↑a1.fElse.length : Int) = 0)) else some (false) with | none => none | some r1 => match bif decide (0 ≤ a1.fVar) then bif decide (a1.fVar < (↑a0.fVars.length : Int)) then if (0 : Int) ≤ a1.fVar ∧ a1.fVar < (↑a0.fVars.length : Int) then some (decide (a0.fVars[a1.fVar.toNat]!.fKind = 0)) else none else some (false) else some (false) with | none => none | some r2 => bif decide (a1.fDo = 0) then match bif r1 then bif r2 then bif decide (a1.fN = 0) then some (decide ((↑a1.fBounds.length : Int) = 0)) else some (false) else some (false) else some (false) with | none => none | some r3 => some (r3) else bif decide (a1.fDo = 1) then match bif r1 then bif decide (a1.fVar = 0) then bif decide (a1.fN = 0) then some (decide ((↑a1.fBounds.length : Int) = 0)) else some (false) else some (false) else some (false) with | none => none | some r4 => some (r4) else bif decide (a1.fDo = 2) then match bif r1 then bif decide (a1.fVar = 0) then bif decide (a1.fN = 0) then bif decide ((↑a1.fBounds.length : Int) = 0) then some (m176 (GTerm.mk a1.fTerm.fOp a1.fTerm.fN a1.fTerm.fKids)) else some (false) else some (false) else some (false) else some (false) with | none => none | some r5 => some (r5) else bif decide (a1.fDo = 3) then match bif decide (a1.fVar = 0) then bif decide (a1.fN = 0) then some (decide ((↑a1.fBounds.length : Int) = 0)) else some (false) else some (false) with | none => none | some r6 => some (r6) else bif decide (a1.fDo = 4) then match bif decide (a1.fVar = 0) then bif decide ((↑a1.fElse.length : Int) = 0) then some (decide ((↑a1.fBounds.length : Int) = 0)) else some (false) else some (false) with | none => none | some r7 => some (r7) else bif decide (a1.fDo = 5) then match bif r1 then bif r2 then bif decide (0 ≤ a1.fN) then bif decide (a1.fN < (↑a0.fHatches.length : Int)) then bif decide ((↑a1.fBounds.length : Int) = 0) then some (m176 (GTerm.mk a1.fTerm.fOp a1.fTerm.fN a1.fTerm.fKids)) else some (false) else some (false) else some (false) else some (false) else some (false) with | none => none | some r8 => some (r8) else bif decide (a1.fDo = 6) then match bif r1 then bif a2 then bif decide (a1.fVar = 0) then bif decide (a1.fN = 0) then bif m176 (GTerm.mk a1.fTerm.fOp a1.fTerm.fN a1.fTerm.fKids) then match m177 a1.fBounds with | none => none | some r9 => some (r9) else some (false) else some (false) else some (false) else some (false) else some (false) with | none => none | some r10 => some (r10) else some (false)
theorem c111 (a0 : Flat) (a1 : GStep) (a2 : Bool) : callR Tryz.prog (F111) 300 (an111) 111 (A111.c (a0, a1, a2, ())) [] 0 d111.rd = m111 a0 a1 a2 := by kernel_rfl
def e111 : Orc → Orc := eL Tryz.prog 111 false A111 d111 (fun g => m111 g.1 g.2.1 g.2.2.1)
theorem e111_ok {F : Orc} (h : OrcG Tryz.prog F) : OrcG Tryz.prog (e111 F) := eL_ok (sc := scU) scU_ok (hl_of F111_ok fa111 (fun _ => by kernel_rfl) (fun _ => by kernel_rfl) fun g => c111 g.1 g.2.1 g.2.2.1) ⟨_, Tryz.func111, by kernel_rfl, by kernel_rfl⟩ (fun _ => by kernel_rfl) (fun _ => by kernel_rfl) h
theorem e111_pure {F : Orc} {f : Nat} (h : PureF F f) : PureF (e111 F) f := orL_pure h (fun _ => by kernel_rfl)
abbrev E55 : Type := Int
def d55 : Td 0 E55 := .c [] [6] (.r 0 0 (ec 6 (qi .i64) en) sn (fun z => z.1.1) (fun x => ((x, ()), (()))) fun _ => rfl)
def A55 := (lc (qg 26) (lc (ql 111) (lc qb ln)))
def x55 (M : Flat → (List GStep) → Bool → Option E55) : Orc → Orc := eL Tryz.prog 55 false A55 d55 (fun g => M g.1 g.2.1 g.2.2.1)
theorem x55_pure {M : Flat → (List GStep) → Bool → Option E55} {F : Orc} {f : Nat} (h : PureF F f) : PureF (x55 M F) f := orL_pure h (fun _ => by kernel_rfl)
def H55 (M : Flat → (List GStep) → Bool → Option E55) : Prop := HL Tryz.prog 55 A55 d55 (fun g => M g.1 g.2.1 g.2.2.1)
theorem x55_ok {M : Flat → (List GStep) → Bool → Option E55} (hM : H55 M) {F : Orc} (h : OrcG Tryz.prog F) : OrcG Tryz.prog (x55 M F) := eL_ok (sc := scU) scU_ok hM ⟨_, Tryz.func55, by kernel_rfl, by kernel_rfl⟩ (fun _ => by kernel_rfl) (fun _ => by kernel_rfl) h
def F55 (M55 : Flat → (List GStep) → Bool → Option E55) : Orc := (e111 (x55 M55 (e54 or0)))
theorem F55_ok {M55} (h55 : H55 M55) : OrcG Tryz.prog (F55 M55) := (e111_ok (x55_ok h55 (e54_ok or0_g)))
structure L55_0 where
 t1 : List GStep
 t2 : Bool
 t7 : Int
 b0 : Flat
def d55_0 : Td 0 L55_0 := .c [] [1, 2, 3, 7] (.r 0 1 (ec 1 (ql 111) (ec 2 qb (ec 3 (qp 0 0) (ec 7 (qi .i64) en)))) (sb 0 26 (lg 26) sn) (fun z => ⟨z.1.1, z.1.2.1, z.1.2.2.2.1, z.2.1⟩) (fun x => ((x.t1, x.t2, (), x.t7, ()), (x.b0, ()))) fun _ => rfl)
def n55_0 (M55 : Flat → (List GStep) → Bool → Option E55) (p : L55_0) : Option (Option L55_0) :=
 bif decide (p.t7 < (↑p.t1.length : Int)) then if (0 : Int) ≤ p.t7 ∧ p.t7 < (↑p.t1.length : Int) then match bif p.t2 then match m111 p.b0 (GStep.mk p.t1[p.t7.toNat]!.fDo p.t1[p.t7.toNat]!.fCost p.t1[p.t7.toNat]!.fVar p.t1[p.t7.toNat]!.fN (GTerm.mk p.t1[p.t7.toNat]!.fTerm.fOp p.t1[p.t7.toNat]!.fTerm.fN p.t1[p.t7.toNat]!.fTerm.fKids) p.t1[p.t7.toNat]!.fThen p.t1[p.t7.toNat]!.fElse p.t1[p.t7.toNat]!.fBounds) (decide (p.t7 = i64.wrap ((↑p.t1.length : Int) - 1))) with | none => none | some r1 => some (bif r1 then false else true) else match m111 p.b0 (GStep.mk p.t1[p.t7.toNat]!.fDo p.t1[p.t7.toNat]!.fCost p.t1[p.t7.toNat]!.fVar p.t1[p.t7.toNat]!.fN (GTerm.mk p.t1[p.t7.toNat]!.fTerm.fOp p.t1[p.t7.toNat]!.fTerm.fN p.t1[p.t7.toNat]!.fTerm.fKids) p.t1[p.t7.toNat]!.fThen p.t1[p.t7.toNat]!.fElse p.t1[p.t7.toNat]!.fBounds) false with | none => none | some r2 => some (bif r2 then false else true) with | none => none | some r3 => bif r3 then some (none) else bif decide (p.t1[p.t7.toNat]!.fDo = 2) then match bif decide (p.t1[p.t7.toNat]!.fCost < 0) then some (true) else bif decide (67108864 < p.t1[p.t7.toNat]!.fCost) then some (true) else bif decide (p.t1[p.t7.toNat]!.fN < 0) then some (true) else bif decide (p.t1[p.t7.toNat]!.fDo = 4) then some (decide (4096 < p.t1[p.t7.toNat]!.fN)) else some (false) with | none => none | some r4 => bif r4 then some (none) else match bif decide (0 < (↑p.t1[p.t7.toNat]!.fBounds.length : Int)) then if (0 : Int) ≤ i64.wrap ((↑p.t1[p.t7.toNat]!.fBounds.length : Int) - (1 : Int)) ∧ i64.wrap ((↑p.t1[p.t7.toNat]!.fBounds.length : Int) - (1 : Int)) < (↑p.t1[p.t7.toNat]!.fBounds.length : Int) then some (decide (67108864 < p.t1[p.t7.toNat]!.fBounds[(i64.wrap ((↑p.t1[p.t7.toNat]!.fBounds.length : Int) - 1)).toNat]!)) else none else some (false) with | none => none | some r5 => bif r5 then some (none) else match m54 p.b0.fVars (GTerm.mk p.t1[p.t7.toNat]!.fTerm.fOp p.t1[p.t7.toNat]!.fTerm.fN p.t1[p.t7.toNat]!.fTerm.fKids) false with | none => none | some r6 => bif bif decide (r6 = 0) then false else true then some (none) else match M55 p.b0 p.t1[p.t7.toNat]!.fThen false with | none => none | some r7 => bif bif decide (r7 = 0) then false else true then some (none) else match M55 p.b0 p.t1[p.t7.toNat]!.fElse false with | none => none | some r8 => bif bif decide (r8 = 0) then false else true then some (none) else some (some (L55_0.mk p.t1 p.t2 (i64.wrap (p.t7 + 1)) p.b0)) else match bif decide (p.t1[p.t7.toNat]!.fCost < 0) then some (true) else bif decide (10000 < p.t1[p.t7.toNat]!.fCost) then some (true) else bif decide (p.t1[p.t7.toNat]!.fN < 0) then some (true) else bif decide (p.t1[p.t7.toNat]!.fDo = 4) then some (decide (4096 < p.t1[p.t7.toNat]!.fN)) else some (false) with | none => none | some r9 => bif r9 then some (none) else match bif decide (0 < (↑p.t1[p.t7.toNat]!.fBounds.length : Int)) then if (0 : Int) ≤ i64.wrap ((↑p.t1[p.t7.toNat]!.fBounds.length : Int) - (1 : Int)) ∧ i64.wrap ((↑p.t1[p.t7.toNat]!.fBounds.length : Int) - (1 : Int)) < (↑p.t1[p.t7.toNat]!.fBounds.length : Int) then some (decide (67108864 < p.t1[p.t7.toNat]!.fBounds[(i64.wrap ((↑p.t1[p.t7.toNat]!.fBounds.length : Int) - 1)).toNat]!)) else none else some (false) with | none => none | some r10 => bif r10 then some (none) else match m54 p.b0.fVars (GTerm.mk p.t1[p.t7.toNat]!.fTerm.fOp p.t1[p.t7.toNat]!.fTerm.fN p.t1[p.t7.toNat]!.fTerm.fKids) false with | none => none | some r11 => bif bif decide (r11 = 0) then false else true then some (none) else match M55 p.b0 p.t1[p.t7.toNat]!.fThen false with | none => none | some r12 => bif bif decide (r12 = 0) then false else true then some (none) else match M55 p.b0 p.t1[p.t7.toNat]!.fElse false with | none => none | some r13 => bif bif decide (r13 = 0) then false else true then some (none) else some (some (L55_0.mk p.t1 p.t2 (i64.wrap (p.t7 + 1)) p.b0)) else none else some (none)
def g55_0 (M55 : Flat → (List GStep) → Bool → Option E55) : An := (.two .no (.two (.two .no (.two (.two (.rb [111] 32) .no) (.two .no (.two .no (.two (.two (.rb [111] 59) .no) (.two (.two (.rb [111] 74) .no) .no)))))) .no))
theorem q55_0 (M55 : Flat → (List GStep) → Bool → Option E55) (p : L55_0) : execA Tryz.prog (F55 M55) Tryz.f55.ntmps 300 (loopAt Tryz.f55 0) (g55_0 M55) (Option L55_0) (d55_0.pat p) (kOn d55_0.rd) = n55_0 M55 p := by kernel_rfl
def a55_0 (M55 : Flat → (List GStep) → Bool → Option E55) : L55_0 → Option L55_0 := advG (n55_0 M55)
def an55 (M55 : Flat → (List GStep) → Bool → Option E55) : An := (.two .no (.two (.two .no (d55_0.lp (a55_0 M55) (g55_0 M55))) .no))
theorem pu55 {M55} : ∀ f ∈ ([111] : List Nat), PureF (F55 M55) f := (ob_cons (e111_pure (x55_pure (e54_pure or0_pure))) ob_nil)
theorem fa55 (M55 : Flat → (List GStep) → Bool → Option E55) : FnAn Tryz.prog (F55 M55) 0 300 55 (an55 M55) := fnAn_of (l := [(loopAt Tryz.f55 0, (d55_0.lp (a55_0 M55) (g55_0 M55))), (.skip, (.rb [111] 32)), (.skip, (.rb [111] 59)), (.skip, (.rb [111] 74))]) Tryz.func55 (bodyOf_eq (by kernel_rfl)) (by kernel_rfl) (ob_cons ⟨d55_0.ok _, advG_ok (q55_0 M55)⟩ (ob_cons pu55 (ob_cons pu55 (ob_cons pu55 ob_nil))))
def s55 (M55 : Flat → (List GStep) → Bool → Option E55) (a0 : Flat) (a1 : List GStep) (a2 : Bool) : Option E55 :=
 match a55_0 M55 (L55_0.mk a1 a2 (0) a0) with | none => none | some r14 => bif decide (r14.t7 < (↑r14.t1.length : Int)) then if (0 : Int) ≤ r14.t7 ∧ r14.t7 < (↑r14.t1.length : Int) then match bif r14.t2 then match m111 r14.b0 (GStep.mk r14.t1[r14.t7.toNat]!.fDo r14.t1[r14.t7.toNat]!.fCost r14.t1[r14.t7.toNat]!.fVar r14.t1[r14.t7.toNat]!.fN (GTerm.mk r14.t1[r14.t7.toNat]!.fTerm.fOp r14.t1[r14.t7.toNat]!.fTerm.fN r14.t1[r14.t7.toNat]!.fTerm.fKids) r14.t1[r14.t7.toNat]!.fThen r14.t1[r14.t7.toNat]!.fElse r14.t1[r14.t7.toNat]!.fBounds) (decide (r14.t7 = i64.wrap ((↑r14.t1.length : Int) - 1))) with | none => none | some r15 => some (bif r15 then false else true) else match m111 r14.b0 (GStep.mk r14.t1[r14.t7.toNat]!.fDo r14.t1[r14.t7.toNat]!.fCost r14.t1[r14.t7.toNat]!.fVar r14.t1[r14.t7.toNat]!.fN (GTerm.mk r14.t1[r14.t7.toNat]!.fTerm.fOp r14.t1[r14.t7.toNat]!.fTerm.fN r14.t1[r14.t7.toNat]!.fTerm.fKids) r14.t1[r14.t7.toNat]!.fThen r14.t1[r14.t7.toNat]!.fElse r14.t1[r14.t7.toNat]!.fBounds) false with | none => none | some r16 => some (bif r16 then false else true) with | none => none | some r17 => bif r17 then some (1) else bif decide (r14.t1[r14.t7.toNat]!.fDo = 2) then match bif decide (r14.t1[r14.t7.toNat]!.fCost < 0) then some (true) else bif decide (67108864 < r14.t1[r14.t7.toNat]!.fCost) then some (true) else bif decide (r14.t1[r14.t7.toNat]!.fN < 0) then some (true) else bif decide (r14.t1[r14.t7.toNat]!.fDo = 4) then some (decide (4096 < r14.t1[r14.t7.toNat]!.fN)) else some (false) with | none => none | some r18 => bif r18 then some (3) else match bif decide (0 < (↑r14.t1[r14.t7.toNat]!.fBounds.length : Int)) then if (0 : Int) ≤ i64.wrap ((↑r14.t1[r14.t7.toNat]!.fBounds.length : Int) - (1 : Int)) ∧ i64.wrap ((↑r14.t1[r14.t7.toNat]!.fBounds.length : Int) - (1 : Int)) < (↑r14.t1[r14.t7.toNat]!.fBounds.length : Int) then some (decide (67108864 < r14.t1[r14.t7.toNat]!.fBounds[(i64.wrap ((↑r14.t1[r14.t7.toNat]!.fBounds.length : Int) - 1)).toNat]!)) else none else some (false) with | none => none | some r19 => bif r19 then some (3) else match m54 r14.b0.fVars (GTerm.mk r14.t1[r14.t7.toNat]!.fTerm.fOp r14.t1[r14.t7.toNat]!.fTerm.fN r14.t1[r14.t7.toNat]!.fTerm.fKids) false with | none => none | some r20 => bif bif decide (r20 = 0) then false else true then some (r20) else match M55 r14.b0 r14.t1[r14.t7.toNat]!.fThen false with | none => none | some r21 => bif bif decide (r21 = 0) then false else true then some (r21) else match M55 r14.b0 r14.t1[r14.t7.toNat]!.fElse false with | none => none | some r22 => bif bif decide (r22 = 0) then false else true then some (r22) else none else match bif decide (r14.t1[r14.t7.toNat]!.fCost < 0) then some (true) else bif decide (10000 < r14.t1[r14.t7.toNat]!.fCost) then some (true) else bif decide (r14.t1[r14.t7.toNat]!.fN < 0) then some (true) else bif decide (r14.t1[r14.t7.toNat]!.fDo = 4) then some (decide (4096 < r14.t1[r14.t7.toNat]!.fN)) else some (false) with | none => none | some r23 => bif r23 then some (3) else match bif decide (0 < (↑r14.t1[r14.t7.toNat]!.fBounds.length : Int)) then if (0 : Int) ≤ i64.wrap ((↑r14.t1[r14.t7.toNat]!.fBounds.length : Int) - (1 : Int)) ∧ i64.wrap ((↑r14.t1[r14.t7.toNat]!.fBounds.length : Int) - (1 : Int)) < (↑r14.t1[r14.t7.toNat]!.fBounds.length : Int) then some (decide (67108864 < r14.t1[r14.t7.toNat]!.fBounds[(i64.wrap ((↑r14.t1[r14.t7.toNat]!.fBounds.length : Int) - 1)).toNat]!)) else none else some (false) with | none => none | some r24 => bif r24 then some (3) else match m54 r14.b0.fVars (GTerm.mk r14.t1[r14.t7.toNat]!.fTerm.fOp r14.t1[r14.t7.toNat]!.fTerm.fN r14.t1[r14.t7.toNat]!.fTerm.fKids) false with | none => none | some r25 => bif bif decide (r25 = 0) then false else true then some (r25) else match M55 r14.b0 r14.t1[r14.t7.toNat]!.fThen false with | none => none | some r26 => bif bif decide (r26 = 0) then false else true then some (r26) else match M55 r14.b0 r14.t1[r14.t7.toNat]!.fElse false with | none => none | some r27 => bif bif decide (r27 = 0) then false else true then some (r27) else none else none else some (0)
theorem c55 (M55 : Flat → (List GStep) → Bool → Option E55) (a0 : Flat) (a1 : List GStep) (a2 : Bool) : callR Tryz.prog (F55 M55) 300 (an55 M55) 55 (A55.c (a0, a1, a2, ())) [] 0 d55.rd = s55 M55 a0 a1 a2 := by kernel_rfl
def mm55 : Nat → (Flat → (List GStep) → Bool → Option E55)
 | 0 => (fun _ _ _ => none)
 | n + 1 => (s55 (mm55 n))
def m55 (n : Nat) : Flat → (List GStep) → Bool → Option E55 := (mm55 n)
theorem mm55_ok : ∀ n, H55 (m55 n)
 | 0 => fun _ _ h => (by cases h)
 | n + 1 => by
  have ih := mm55_ok n
  have i55 := ih
  exact (hl_of (F55_ok i55) (fa55 (m55 n)) (fun _ => by kernel_rfl) (fun _ => by kernel_rfl) fun g => c55 (m55 n) g.1 g.2.1 g.2.2.1)
def r55 : Flat → (List GStep) → Bool → Option E55 := fun a0 a1 a2 => lim (fun n => m55 n a0 a1 a2)
theorem r55_ok : H55 r55 := fun g b h => by
 obtain ⟨n, hn⟩ := lim_some (show lim (fun n => m55 n g.1 g.2.1 g.2.2.1) = some b from h)
 exact (mm55_ok n) g b hn
def e55 (F : Orc) : Orc := x55 r55 F
theorem e55_ok {F : Orc} (h : OrcG Tryz.prog F) : OrcG Tryz.prog (e55 F) := x55_ok r55_ok h
abbrev E56 : Type := Int × Int × Int
def d56 : Td 0 E56 := .c [] [2, 3, 4] (.r 0 0 (ec 2 (qi .i64) (ec 3 (qi .i64) (ec 4 (qi .i64) en))) sn (fun z => (z.1.1, z.1.2.1, z.1.2.2.1)) (fun x => ((x.1, x.2.1, x.2.2, ()), (()))) fun _ => rfl)
def A56 := (lc (ql 111) ln)
def x56 (M : (List GStep) → Option E56) : Orc → Orc := eL Tryz.prog 56 false A56 d56 (fun g => M g.1)
def H56 (M : (List GStep) → Option E56) : Prop := HL Tryz.prog 56 A56 d56 (fun g => M g.1)
theorem x56_ok {M : (List GStep) → Option E56} (hM : H56 M) {F : Orc} (h : OrcG Tryz.prog F) : OrcG Tryz.prog (x56 M F) := eL_ok (sc := scU) scU_ok hM ⟨_, Tryz.func56, by kernel_rfl, by kernel_rfl⟩ (fun _ => by kernel_rfl) (fun _ => by kernel_rfl) h
def F56 (M56 : (List GStep) → Option E56) : Orc := (e113 (e112 (x56 M56 or0)))
theorem F56_ok {M56} (h56 : H56 M56) : OrcG Tryz.prog (F56 M56) := (e113_ok (e112_ok (x56_ok h56 or0_g)))
structure L56_0 where
 t0 : List GStep
 t5 : Int
 t6 : Int
 t7 : Int
 t8 : Int
def d56_0 : Td 0 L56_0 := .c [] [0, 5, 6, 7, 8] (.r 0 0 (ec 0 (ql 111) (ec 5 (qi .i64) (ec 6 (qi .i64) (ec 7 (qi .i64) (ec 8 (qi .i64) en))))) sn (fun z => ⟨z.1.1, z.1.2.1, z.1.2.2.1, z.1.2.2.2.1, z.1.2.2.2.2.1⟩) (fun x => ((x.t0, x.t5, x.t6, x.t7, x.t8, ()), (()))) fun _ => rfl)
def n56_0 (M56 : (List GStep) → Option E56) (p : L56_0) : Option (Option L56_0) :=
 bif decide (p.t8 < (↑p.t0.length : Int)) then if (0 : Int) ≤ p.t8 ∧ p.t8 < (↑p.t0.length : Int) then match M56 p.t0[p.t8.toNat]!.fThen with | none => none | some r1 => match M56 p.t0[p.t8.toNat]!.fElse with | none => none | some r2 => bif decide (p.t0[p.t8.toNat]!.fDo = 4) then bif decide (p.t0[p.t8.toNat]!.fDo = 1) then some (some (L56_0.mk p.t0 (m113 (i64.wrap (p.t5 + i64.wrap (1 + i64.wrap (p.t0[p.t8.toNat]!.fN * i64.wrap (1 + r1.fst))))) (4097)) (m113 (i64.wrap (p.t6 + 1)) (9)) (m113 (i64.wrap (p.t7 + i64.wrap (p.t0[p.t8.toNat]!.fN * i64.wrap (p.t0[p.t8.toNat]!.fCost + r1.snd.snd)))) (67108865)) (i64.wrap (p.t8 + 1)))) else some (some (L56_0.mk p.t0 (m113 (i64.wrap (p.t5 + i64.wrap (1 + i64.wrap (p.t0[p.t8.toNat]!.fN * i64.wrap (1 + r1.fst))))) (4097)) (m113 (i64.wrap (p.t6 + i64.wrap (p.t0[p.t8.toNat]!.fN * r1.snd.fst))) (9)) (m113 (i64.wrap (p.t7 + i64.wrap (p.t0[p.t8.toNat]!.fN * i64.wrap (p.t0[p.t8.toNat]!.fCost + r1.snd.snd)))) (67108865)) (i64.wrap (p.t8 + 1)))) else bif decide (p.t0[p.t8.toNat]!.fDo = 1) then some (some (L56_0.mk p.t0 (m113 (i64.wrap (p.t5 + i64.wrap (1 + m112 r1.fst r2.fst))) (4097)) (m113 (i64.wrap (p.t6 + 1)) (9)) (m113 (i64.wrap (p.t7 + i64.wrap (p.t0[p.t8.toNat]!.fCost + m112 r1.snd.snd r2.snd.snd))) (67108865)) (i64.wrap (p.t8 + 1)))) else some (some (L56_0.mk p.t0 (m113 (i64.wrap (p.t5 + i64.wrap (1 + m112 r1.fst r2.fst))) (4097)) (m113 (i64.wrap (p.t6 + m112 r1.snd.fst r2.snd.fst)) (9)) (m113 (i64.wrap (p.t7 + i64.wrap (p.t0[p.t8.toNat]!.fCost + m112 r1.snd.snd r2.snd.snd))) (67108865)) (i64.wrap (p.t8 + 1)))) else none else some (none)
theorem q56_0 (M56 : (List GStep) → Option E56) (p : L56_0) : execA Tryz.prog (F56 M56) Tryz.f56.ntmps 300 (loopAt Tryz.f56 0) .no (Option L56_0) (d56_0.pat p) (kOn d56_0.rd) = n56_0 M56 p := by kernel_rfl
def a56_0 (M56 : (List GStep) → Option E56) : L56_0 → Option L56_0 := advG (n56_0 M56)
def an56 (M56 : (List GStep) → Option E56) : An := (.two .no (.two .no (.two (.two .no (d56_0.lp (a56_0 M56) .no)) .no)))
theorem fa56 (M56 : (List GStep) → Option E56) : FnAn Tryz.prog (F56 M56) 0 300 56 (an56 M56) := fnAn_of (l := [(loopAt Tryz.f56 0, (d56_0.lp (a56_0 M56) .no))]) Tryz.func56 (bodyOf_eq (by kernel_rfl)) (by kernel_rfl) (ob_cons ⟨d56_0.ok _, advG_ok (q56_0 M56)⟩ ob_nil)
def s56 (M56 : (List GStep) → Option E56) (a0 : List GStep) : Option E56 :=
 match a56_0 M56 (L56_0.mk a0 (0) (0) (0) (0)) with | none => none | some r3 => bif decide (r3.t8 < (↑r3.t0.length : Int)) then if (0 : Int) ≤ r3.t8 ∧ r3.t8 < (↑r3.t0.length : Int) then match M56 r3.t0[r3.t8.toNat]!.fThen with | none => none | some r4 => match M56 r3.t0[r3.t8.toNat]!.fElse with | none => none | some r5 => bif decide (r3.t0[r3.t8.toNat]!.fDo = 4) then bif decide (r3.t0[r3.t8.toNat]!.fDo = 1) then none else none else bif decide (r3.t0[r3.t8.toNat]!.fDo = 1) then none else none else none else some ((r3.t5, r3.t6, r3.t7))
theorem c56 (M56 : (List GStep) → Option E56) (a0 : List GStep) : callR Tryz.prog (F56 M56) 300 (an56 M56) 56 (A56.c (a0, ())) [] 0 d56.rd = s56 M56 a0 := by kernel_rfl
def mm56 : Nat → ((List GStep) → Option E56)
 | 0 => (fun _ => none)
 | n + 1 => (s56 (mm56 n))
def m56 (n : Nat) : (List GStep) → Option E56 := (mm56 n)
theorem mm56_ok : ∀ n, H56 (m56 n)
 | 0 => fun _ _ h => (by cases h)
 | n + 1 => by
  have ih := mm56_ok n
  have i56 := ih
  exact (hl_of (F56_ok i56) (fa56 (m56 n)) (fun _ => by kernel_rfl) (fun _ => by kernel_rfl) fun g => c56 (m56 n) g.1)
def r56 : (List GStep) → Option E56 := fun a0 => lim (fun n => m56 n a0)
theorem r56_ok : H56 r56 := fun g b h => by
 obtain ⟨n, hn⟩ := lim_some (show lim (fun n => m56 n g.1) = some b from h)
 exact (mm56_ok n) g b hn
def e56 (F : Orc) : Orc := x56 r56 F
theorem e56_ok {F : Orc} (h : OrcG Tryz.prog F) : OrcG Tryz.prog (e56 F) := x56_ok r56_ok h
def F15 : Orc := (e56 (e55 (e54 (e53 (e52 (e51 (e50 or0)))))))
theorem F15_ok : OrcG Tryz.prog F15 := (e56_ok (e55_ok (e54_ok (e53_ok (e52_ok (e51_ok (e50_ok or0_g)))))))
structure L15_1 where
 t4 : Int
 t6 : Int
 b0 : Flat
 b1 : Hatch
def d15_1 : Td 0 L15_1 := .c [] [1, 4, 5, 6] (.r 0 2 (ec 1 (qp 0 0) (ec 4 (qi .i64) (ec 5 (qp 1 0) (ec 6 (qi .i64) en)))) (sb 0 26 (lg 26) (sb 1 116 (lg 116) sn)) (fun z => ⟨z.1.2.1, z.1.2.2.2.1, z.2.1, z.2.2.1⟩) (fun x => (((), x.t4, (), x.t6, ()), (x.b0, x.b1, ()))) fun _ => rfl)
def n15_1 (p : L15_1) : Option (Option L15_1) :=
 bif decide (p.t6 < p.t4) then if (0 : Int) ≤ p.t6 ∧ p.t6 < (↑p.b0.fHatches.length : Int) then bif p.b0.fHatches[p.t6.toNat]!.fName.toList == p.b1.fName.toList then some (none) else some (some (L15_1.mk p.t4 (i64.wrap (p.t6 + 1)) p.b0 (Hatch.mk p.b1.fName p.b1.fLow p.b1.fHigh (GTerm.mk p.b1.fTerm.fOp p.b1.fTerm.fN p.b1.fTerm.fKids)))) else none else some (none)
theorem q15_1 (p : L15_1) : execA Tryz.prog (F15) Tryz.f15.ntmps 300 (loopAt Tryz.f15 1) .no (Option L15_1) (d15_1.pat p) (kOn d15_1.rd) = n15_1 p := by kernel_rfl
def a15_1 : L15_1 → Option L15_1 := advG (n15_1)
structure L15_0 where
 t4 : Int
 b0 : Flat
def d15_0 : Td 0 L15_0 := .c [] [1, 4] (.r 0 1 (ec 1 (qp 0 0) (ec 4 (qi .i64) en)) (sb 0 26 (lg 26) sn) (fun z => ⟨z.1.2.1, z.2.1⟩) (fun x => (((), x.t4, ()), (x.b0, ()))) fun _ => rfl)
def n15_0 (p : L15_0) : Option (Option L15_0) :=
 bif decide (p.t4 < (↑p.b0.fHatches.length : Int)) then if (0 : Int) ≤ p.t4 ∧ p.t4 < (↑p.b0.fHatches.length : Int) then match m52 p.b0.fHatches[p.t4.toNat]!.fName with | none => none | some r1 => bif bif r1 then false else true then some (none) else match a15_1 (L15_1.mk p.t4 (0) p.b0 (Hatch.mk p.b0.fHatches[p.t4.toNat]!.fName p.b0.fHatches[p.t4.toNat]!.fLow p.b0.fHatches[p.t4.toNat]!.fHigh (GTerm.mk p.b0.fHatches[p.t4.toNat]!.fTerm.fOp p.b0.fHatches[p.t4.toNat]!.fTerm.fN p.b0.fHatches[p.t4.toNat]!.fTerm.fKids))) with | none => none | some r2 => bif decide (r2.t6 < r2.t4) then if (0 : Int) ≤ r2.t6 ∧ r2.t6 < (↑r2.b0.fHatches.length : Int) then bif r2.b0.fHatches[r2.t6.toNat]!.fName.toList == r2.b1.fName.toList then some (none) else none else none else bif bif m53 r2.b1.fLow r2.b1.fHigh then false else true then some (none) else match m54 r2.b0.fVars (GTerm.mk r2.b1.fTerm.fOp r2.b1.fTerm.fN r2.b1.fTerm.fKids) true with | none => none | some r3 => bif bif decide (r3 = 0) then false else true then some (none) else some (some (L15_0.mk (i64.wrap (r2.t4 + 1)) r2.b0)) else none else some (none)
def g15_0 : An := (.two .no (.two (.two .no (.two .no (.two (.two .no (d15_1.lp a15_1 .no)) .no))) .no))
theorem q15_0 (p : L15_0) : execA Tryz.prog (F15) Tryz.f15.ntmps 300 (loopAt Tryz.f15 0) g15_0 (Option L15_0) (d15_0.pat p) (kOn d15_0.rd) = n15_0 p := by kernel_rfl
def a15_0 : L15_0 → Option L15_0 := advG (n15_0)
abbrev E15 : Type := Int
def d15 : Td 0 E15 := .c [] [2] (.r 0 0 (ec 2 (qi .i64) en) sn (fun z => z.1.1) (fun x => ((x, ()), (()))) fun _ => rfl)
def A15 := (lc (qg 26) ln)
def an15 : An := (.two .no (.two .no (.two .no (.two .no (.two (.two .no (d15_0.lp a15_0 g15_0)) (.two .no (.two .no (.two .no (.two (.two (.rb [] 86) .no) .no)))))))))
theorem pu15  : ∀ f ∈ ([] : List Nat), PureF (F15) f := ob_nil
theorem fa15 : FnAn Tryz.prog (F15) 0 300 15 (an15) := fnAn_of (l := [(loopAt Tryz.f15 0, (d15_0.lp a15_0 g15_0)), (loopAt Tryz.f15 1, (d15_1.lp a15_1 .no)), (.skip, (.rb [] 86))]) Tryz.func15 (bodyOf_eq (by kernel_rfl)) (by kernel_rfl) (ob_cons ⟨d15_0.ok _, advG_ok (q15_0)⟩ (ob_cons ⟨d15_1.ok _, advG_ok (q15_1)⟩ (ob_cons pu15 ob_nil)))
def m15 (a0 : Flat) : Option E15 :=
 match m50 a0 with | none => none | some r4 => bif bif r4 then false else true then some (4) else match m51 a0.fVars with | none => none | some r5 => bif bif decide (r5 = 0) then false else true then some (r5) else match a15_0 (L15_0.mk (0) a0) with | none => none | some r6 => bif decide (r6.t4 < (↑r6.b0.fHatches.length : Int)) then if (0 : Int) ≤ r6.t4 ∧ r6.t4 < (↑r6.b0.fHatches.length : Int) then match m52 r6.b0.fHatches[r6.t4.toNat]!.fName with | none => none | some r7 => bif bif r7 then false else true then some (7) else match a15_1 (L15_1.mk r6.t4 (0) r6.b0 (Hatch.mk r6.b0.fHatches[r6.t4.toNat]!.fName r6.b0.fHatches[r6.t4.toNat]!.fLow r6.b0.fHatches[r6.t4.toNat]!.fHigh (GTerm.mk r6.b0.fHatches[r6.t4.toNat]!.fTerm.fOp r6.b0.fHatches[r6.t4.toNat]!.fTerm.fN r6.b0.fHatches[r6.t4.toNat]!.fTerm.fKids))) with | none => none | some r8 => bif decide (r8.t6 < r8.t4) then if (0 : Int) ≤ r8.t6 ∧ r8.t6 < (↑r8.b0.fHatches.length : Int) then bif r8.b0.fHatches[r8.t6.toNat]!.fName.toList == r8.b1.fName.toList then some (8) else none else none else bif bif m53 r8.b1.fLow r8.b1.fHigh then false else true then some (3) else match m54 r8.b0.fVars (GTerm.mk r8.b1.fTerm.fOp r8.b1.fTerm.fN r8.b1.fTerm.fKids) true with | none => none | some r9 => bif bif decide (r9 = 0) then false else true then some (r9) else none else none else match r55 r6.b0 r6.b0.fBody true with | none => none | some r10 => bif bif decide (r10 = 0) then false else true then some (r10) else match r56 r6.b0.fBody with | none => none | some r11 => match bif decide (4096 < r11.fst) then some (true) else bif decide (8 < r11.snd.fst) then some (true) else some (decide (67108864 < r11.snd.snd)) with | none => none | some r12 => bif r12 then some (4) else some (0)
theorem c15 (a0 : Flat) : callR Tryz.prog (F15) 300 (an15) 15 (A15.c (a0, ())) [] 0 d15.rd = m15 a0 := by kernel_rfl
theorem h15 : HL Tryz.prog 15 A15 d15 (fun g => m15 g.1) := (hl_of F15_ok fa15 (fun _ => by kernel_rfl) (fun _ => by kernel_rfl) fun g => c15 g.1)
def e15 : Orc → Orc := eL Tryz.prog 15 false A15 d15 (fun g => m15 g.1)
theorem e15_ok {F : Orc} (h : OrcG Tryz.prog F) : OrcG Tryz.prog (e15 F) := eL_ok (sc := scU) scU_ok h15 ⟨_, Tryz.func15, by kernel_rfl, by kernel_rfl⟩ (fun _ => by kernel_rfl) (fun _ => by kernel_rfl) h
theorem e15_pure {F : Orc} {f : Nat} (h : PureF F f) : PureF (e15 F) f := orL_pure h (fun _ => by kernel_rfl)
theorem baList (l : List UInt8) : (ByteArray.mk (Array.mk l)).toList = l := by
 simp
theorem emptyS (s : ByteArray) : (s.toList == (ByteArray.mk (Array.mk [])).toList) = decide (s.size = 0) := by
 obtain ⟨⟨l⟩⟩ := s
 rw [baList, baList]
 have hs : (ByteArray.mk (Array.mk l)).size = l.length := rfl
 rw [hs]
 cases l with
 | nil => rfl
 | cons a l => simp
theorem m163_eq (s : ByteArray) : m163 s = some (nameB s) := by
  unfold m163
  rw [emptyS]
  by_cases h0 : s.size = 0
  · simp [h0, nameB]
  by_cases h1 : 40 < (s.size : Int)
  · have h1' : ¬ s.size ≤ 40 := by omega
    simp [h1, h1', nameB]
  rw [decide_eq_false h0, decide_eq_false h1]
  obtain ⟨i, e1, hc⟩ := loopB (rnd := n163_0) (List.range s.size) (fun i => ⟨s, (s.size : Int), (i : Int)⟩) (fun i j => okc j (byteAt s j)) (fun i hi => by
    rw [List.length_range] at hi
    have hw := w1L hi (by omega)
    unfold n163_0 okc
    simp only [Int.toNat_natCast]
    grind) (by unfold n163_0; simp)
  have e1' : a163_0 ⟨s, (s.size : Int), 0⟩ = some ⟨s, (s.size : Int), (i : Int)⟩ := e1
  rw [e1']
  have h2 : nameB s = (List.range s.size).all fun i => okc i (byteAt s i) := by
    unfold nameB
    rw [decide_eq_true (by omega), decide_eq_true (by omega)]
    simp
  rw [h2]
  rcases hc with ⟨rfl, hc⟩ | ⟨hi, hc⟩
  · rw [all_of hc]
    simp
  · rw [not_all hi hc]
    unfold okc at hc
    simp only [Int.toNat_natCast]
    grind
theorem m52_eq (s : ByteArray) : m52 s = some (nameB s) := by
  unfold m52
  by_cases h0 : s.size < 1
  · have h0' : ¬ 1 ≤ s.size := by omega
    have h0'' : (s.size : Int) < 1 := by omega
    simp [h0'', h0', nameB]
  by_cases h1 : 40 < (s.size : Int)
  · have h1' : ¬ s.size ≤ 40 := by omega
    have h0'' : ¬ (s.size : Int) < 1 := by omega
    simp [h1, h1', nameB]
  rw [decide_eq_false (show ¬ (s.size : Int) < 1 by omega), decide_eq_false h1]
  obtain ⟨i, e1, hc⟩ := loopB (rnd := n52_0) (List.range s.size) (fun i => ⟨s, (i : Int)⟩) (fun i j => okc j (byteAt s j)) (fun i hi => by
    rw [List.length_range] at hi
    have hw := w1L hi (by omega)
    unfold n52_0 okc
    simp only [Int.toNat_natCast]
    grind) (by unfold n52_0; simp)
  have e1' : a52_0 ⟨s, 0⟩ = some ⟨s, (i : Int)⟩ := e1
  rw [e1']
  have h2 : nameB s = (List.range s.size).all fun i => okc i (byteAt s i) := by
    unfold nameB
    rw [decide_eq_true (by omega), decide_eq_true (by omega)]
    simp
  rw [h2]
  rcases hc with ⟨rfl, hc⟩ | ⟨hi, hc⟩
  · rw [all_of hc]
    simp
  · rw [not_all hi hc]
    unfold okc at hc
    simp only [Int.toNat_natCast]
    grind
theorem m165_eq (a b : Int) : m165 a b = boundB a b := by
 unfold m165 boundB
 simp
theorem m53_eq (a b : Int) : m53 a b = boundB a b := by
 unfold m53 boundB
 simp
theorem m164_eq (l : List GVar) (hl : l.length ≤ 1000000) (v : GVar) : m164 l v = some (l.any fun w => w.fName.toList == v.fName.toList) := by
  obtain ⟨i, e1, hc⟩ := loopB (rnd := n225_0) l (fun i => ⟨l, v.fName, v.fKind, v.fLow, v.fHigh, v.fInit, (l.length : Int), (i : Int)⟩) (fun _ w => !(w.fName.toList == v.fName.toList)) (fun i hi => by
    have hw := w1L hi hl
    unfold n225_0 m162
    grind) (by unfold n225_0; simp)
  have e1' : a225_0 ⟨l, v.fName, v.fKind, v.fLow, v.fHigh, v.fInit, (l.length : Int), 0⟩ = some ⟨l, v.fName, v.fKind, v.fLow, v.fHigh, v.fInit, (l.length : Int), (i : Int)⟩ := e1
  unfold m164 m225
  rw [e1']
  rcases hc with ⟨rfl, hc⟩ | ⟨hi, hc⟩
  · rw [not_any fun j hj => by have := hc j hj; simpa using this]
    simp
  · have hc' : (l[i]!.fName.toList == v.fName.toList) = true := by simpa using hc
    rw [is_any hi hc']
    unfold m162
    simp only [Int.toNat_natCast, hc']
    simp [hi]
theorem a51_1_eq (l : List GVar) (hl : l.length ≤ 1000000) (n : Nat) (hn : n ≤ l.length) (v : GVar) :
    ∃ i : Nat, a51_1 ⟨l, n, 0, v⟩ = some ⟨l, n, (i : Int), v⟩ ∧ ((i = n ∧ ((l.take n).any fun w => w.fName.toList == v.fName.toList) = false) ∨ (i < n ∧ (l[i]!.fName.toList == v.fName.toList) = true ∧ ((l.take n).any fun w => w.fName.toList == v.fName.toList) = true)) := by
  have hlen : (l.take n).length = n := by rw [List.length_take]; omega
  have hget : ∀ i, i < n → (l.take n)[i]! = l[i]! := fun i hi => by
    rw [getElem!_pos _ i (by omega), getElem!_pos _ i (by omega), List.getElem_take]
  obtain ⟨i, e1, hc⟩ := loopB (rnd := n51_1) (l.take n) (fun i => ⟨l, (n : Int), (i : Int), v⟩) (fun _ w => !(w.fName.toList == v.fName.toList)) (fun i hi => by
    have hw := w1L hi (by omega)
    unfold n51_1
    grind) (by rw [hlen]; unfold n51_1; simp)
  refine ⟨i, e1, ?_⟩
  rw [hlen] at hc
  rcases hc with ⟨rfl, hc⟩ | ⟨hi, hc⟩
  · exact .inl ⟨rfl, not_any fun j hj => by have := hc j (by omega); simpa using this⟩
  · have hc' : ((l.take n)[i]!.fName.toList == v.fName.toList) = true := by simpa using hc
    exact .inr ⟨hi, by rw [← hget i hi]; exact hc', is_any (by omega) hc'⟩
theorem nTs_app (a b : List GTerm) : nTs (a ++ b) = nTs a + nTs b := by simp [nTs]
theorem nTs_take (l : List GTerm) (i : Nat) : nTs (l.take i) ≤ nTs l := by
 have := nTs_app (l.take i) (l.drop i)
 rw [List.take_append_drop] at this
 omega
theorem nTs_len (l : List GTerm) : l.length ≤ nTs l := by
 induction l with
 | nil => simp
 | cons a l ih => rw [nTs_cons]; have := nT_pos a; simp; omega
theorem nSs_app (a b : List GStep) : nSs (a ++ b) = nSs a + nSs b := by simp [nSs]
theorem nSs_take (l : List GStep) (i : Nat) : nSs (l.take i) ≤ nSs l := by
 have := nSs_app (l.take i) (l.drop i)
 rw [List.take_append_drop] at this
 omega
theorem nS_pos (s : GStep) : 0 < nS s := by rw [nS_eq]; omega
theorem nSs_len (l : List GStep) : l.length ≤ nSs l := by
 induction l with
 | nil => simp
 | cons a l ih => rw [nSs_cons]; have := nS_pos a; simp; omega
theorem nTs_step {l : List GTerm} {i : Nat} (hi : i < l.length) : nTs (l.take i) + nT l[i]! ≤ nTs l := by
 have := nTs_take l (i + 1)
 rw [take_succL hi, nTs_snoc] at this
 omega
theorem nSs_step {l : List GStep} {i : Nat} (hi : i < l.length) : nSs (l.take i) + nS l[i]! ≤ nSs l := by
 have := nSs_take l (i + 1)
 rw [take_succL hi, nSs_snoc] at this
 omega
theorem dTs_le (l : List GTerm) (h : ∀ k ∈ l, dT k ≤ nT k) : ∀ i, i ≤ l.length → dTs (l.take i) ≤ nTs (l.take i) := by
 intro i
 induction i with
 | zero => intro _; simp [dTs]
 | succ i ih =>
  intro hi
  have h2 := h _ (get_memL (show i < l.length by omega))
  rw [take_succL (by omega), dTs_snoc, nTs_snoc]
  omega
theorem dT_le (t : GTerm) : dT t ≤ nT t := by
 have key : ∀ (n : Nat) (t : GTerm), SizeOf.sizeOf t < n → dT t ≤ nT t := by
  intro n
  induction n with
  | zero => intro t h; omega
  | succ n ih =>
   intro t h
   have := dTs_le t.fKids (fun k hk => ih k (by have := GTerm.kids_lt hk; omega)) t.fKids.length (Nat.le_refl _)
   rw [List.take_length] at this
   rw [dT_eq, nT_eq]
   omega
 exact key _ t (Nat.lt_succ_self _)
theorem dTs_take (l : List GTerm) (i : Nat) : dTs (l.take i) ≤ nTs l := by
  have h1 := nTs_take l i
  by_cases h : i ≤ l.length
  · have := dTs_le l (fun k _ => dT_le k) i h
    omega
  · have := dTs_le l (fun k _ => dT_le k) l.length (Nat.le_refl _)
    rw [List.take_length] at this
    rw [List.take_of_length_le (by omega)]
    omega
theorem dSs_le (l : List GStep) : dSs l ≤ nSs l := by
 have key : ∀ (n : Nat) (l : List GStep), SizeOf.sizeOf l < n → dSs l ≤ nSs l := by
  intro n
  induction n with
  | zero => intro t h; omega
  | succ n ih =>
   intro l h
   cases l with
   | nil => rw [dSs]; simp
   | cons s l =>
    have q1 := ih s.fThen (by have := sizeOf_then (l := s :: l) (List.mem_cons_self ..); omega)
    have q2 := ih s.fElse (by have := sizeOf_then (l := s :: l) (List.mem_cons_self ..); omega)
    have q3 := ih l (by have := size_tail s l; omega)
    rw [dSs, nSs_cons, nS_eq]
    omega
 exact key _ l (Nat.lt_succ_self _)
theorem s104_eq (M : GTerm → Option E104) (t : GTerm) (hM : ∀ k ∈ t.fKids, M k = some (nT k : Int)) (h : nT t ≤ 1000) : s104 M t = some (nT t : Int) := by
  have hN := nT_eq t
  have hL := nTs_len t.fKids
  obtain ⟨v, e1, hv⟩ := loopI (rnd := n104_0 M) t.fKids.length (fun i (b : Int) => ⟨b, (i : Int), t⟩) (fun i b => b = 1 + nTs (t.fKids.take i)) (fun i b hi hb => by
      have hs := nTs_step hi
      refine ⟨b + nT t.fKids[i]!, ?_, ?_⟩
      · have hk := hM _ (get_memL hi)
        have hw := w1L hi (by omega)
        have hw2 : i64.wrap (b + nT t.fKids[i]!) = b + nT t.fKids[i]! := wrap_id (by omega) (by omega)
        unfold n104_0
        simp only [GTerm.eta]
        grind
      · rw [take_succL hi, nTs_snoc]; omega) (fun b _ => by unfold n104_0; simp) (b := 1) (by simp [nTs])
  have e1' : a104_0 M ⟨1, 0, t⟩ = some ⟨v, (t.fKids.length : Int), t⟩ := e1
  unfold s104
  rw [GTerm.eta, e1', hN]
  simp [hv]
theorem m104_eq : ∀ (n : Nat) (t : GTerm), SizeOf.sizeOf t < n → nT t ≤ 1000 → m104 n t = some (nT t : Int)
 | 0, _, h, _ => by omega
 | n + 1, t, h, h2 => s104_eq (m104 n) t (fun k hk => m104_eq n k (by have := GTerm.kids_lt hk; omega) (by have := nTs_mem hk; have := nT_eq t; omega)) h2
theorem r104_eq (t : GTerm) (h : nT t ≤ 1000) : r104 t = some (nT t : Int) := lim_eq (SizeOf.sizeOf t + 1) fun n hn => m104_eq n t (by omega) h
theorem s105_eq (M : GTerm → Option E105) (t : GTerm) (hM : ∀ k ∈ t.fKids, M k = some (dT k)) (h : nT t ≤ 1000) : s105 M t = some (dT t) := by
  have hN := nT_eq t
  have hL := nTs_len t.fKids
  obtain ⟨v, e1, hv⟩ := loopI (rnd := n105_0 M) t.fKids.length (fun i (b : Int) => ⟨b, (i : Int), t⟩) (fun i b => b = dTs (t.fKids.take i)) (fun i b hi hb => by
      refine ⟨max b (dT t.fKids[i]!), ?_, ?_⟩
      · have hk := hM _ (get_memL hi)
        have hw := w1L hi (by omega)
        unfold n105_0
        simp only [Bool.cond_decide, GTerm.eta]
        grind
      · rw [take_succL hi, dTs_snoc, hb]) (fun b _ => by unfold n105_0; simp) (b := 0) (by simp [dTs])
  have e1' : a105_0 M ⟨0, 0, t⟩ = some ⟨v, (t.fKids.length : Int), t⟩ := e1
  unfold s105
  rw [GTerm.eta, e1', dT_eq]
  have hd := dTs_take t.fKids t.fKids.length
  have hp := dTs_pos t.fKids
  rw [List.take_length] at hv hd
  subst hv
  have hw2 : i64.wrap (dTs t.fKids + 1) = dTs t.fKids + 1 := wrap_id (by omega) (by omega)
  dsimp only
  rw [decide_eq_false (by omega)]
  show some (i64.wrap (dTs t.fKids + 1)) = _
  congr 1
  omega
theorem m105_eq : ∀ (n : Nat) (t : GTerm), SizeOf.sizeOf t < n → nT t ≤ 1000 → m105 n t = some (dT t)
 | 0, _, h, _ => by omega
 | n + 1, t, h, h2 => s105_eq (m105 n) t (fun k hk => m105_eq n k (by have := GTerm.kids_lt hk; omega) (by have := nTs_mem hk; have := nT_eq t; omega)) h2
theorem r105_eq (t : GTerm) (h : nT t ≤ 1000) : r105 t = some (dT t) := lim_eq (SizeOf.sizeOf t + 1) fun n hn => m105_eq n t (by omega) h
theorem nSs_mem {s : GStep} {l : List GStep} (h : s ∈ l) : nS s ≤ nSs l := by
  induction l with
  | nil => cases h
  | cons a l ih =>
    rw [nSs_cons]
    rcases List.mem_cons.1 h with rfl | h
    · omega
    · have := ih h; omega
def nodS : List GStep → Int
 | [] => 0
 | s :: l => 1 + nT s.fTerm + nodS s.fThen + nodS s.fElse + nodS l
termination_by l => SizeOf.sizeOf l
decreasing_by
  · exact (sizeOf_then (List.mem_cons_self ..)).1
  · exact (sizeOf_then (List.mem_cons_self ..)).2
  · exact size_tail _ _
theorem nodS_le (l : List GStep) : 0 ≤ nodS l ∧ nodS l ≤ nSs l := by
 have key : ∀ (n : Nat) (l : List GStep), SizeOf.sizeOf l < n → 0 ≤ nodS l ∧ nodS l ≤ nSs l := by
  intro n
  induction n with
  | zero => intro t h; omega
  | succ n ih =>
   intro l h
   cases l with
   | nil => rw [nodS]; simp
   | cons s l =>
    have q1 := ih s.fThen (by have := sizeOf_then (l := s :: l) (List.mem_cons_self ..); omega)
    have q2 := ih s.fElse (by have := sizeOf_then (l := s :: l) (List.mem_cons_self ..); omega)
    have q3 := ih l (by have := size_tail s l; omega)
    rw [nodS, nSs_cons, nS_eq]
    omega
 exact key _ l (Nat.lt_succ_self _)
theorem nodS_snoc (l : List GStep) (s : GStep) : nodS (l ++ [s]) = nodS l + (1 + nT s.fTerm + nodS s.fThen + nodS s.fElse) := by
 induction l with
 | nil => rw [List.nil_append, show nodS [] = 0 by rw [nodS], nodS, show nodS [] = 0 by rw [nodS]]; omega
 | cons a l ih => rw [List.cons_append, nodS, nodS, ih]; omega
theorem s103_eq (M : List GStep → Option E103) (l : List GStep) (hM : ∀ s ∈ l, M s.fThen = some (nodS s.fThen) ∧ M s.fElse = some (nodS s.fElse)) (h : nSs l ≤ 1000) : s103 M l = some (nodS l) := by
  have hL := nSs_len l
  obtain ⟨v, e1, hv⟩ := loopI (rnd := n103_0 M) l.length (fun i (b : Int) => ⟨l, b, (i : Int)⟩) (fun i b => b = nodS (l.take i)) (fun i b hi hb => by
      have hs := nSs_step hi
      have hE := nS_eq l[i]!
      obtain ⟨k1, k4⟩ := hM _ (get_memL hi)
      have k2 := nodS_le l[i]!.fThen
      have k3 := nodS_le l[i]!.fElse
      have k5 := nodS_le (l.take i)
      have hk := r104_eq l[i]!.fTerm (by omega)
      have hw := w1L hi (by omega)
      refine ⟨b + (1 + nT l[i]!.fTerm + nodS l[i]!.fThen + nodS l[i]!.fElse), ?_, ?_⟩
      · have w1 : i64.wrap (b + 1) = b + 1 := wrap_id (by omega) (by omega)
        have w2 : i64.wrap (b + 1 + nT l[i]!.fTerm) = b + 1 + nT l[i]!.fTerm := wrap_id (by omega) (by omega)
        have w3 : i64.wrap (b + 1 + nT l[i]!.fTerm + nodS l[i]!.fThen) = b + 1 + nT l[i]!.fTerm + nodS l[i]!.fThen := wrap_id (by omega) (by omega)
        have w4 : i64.wrap (b + 1 + nT l[i]!.fTerm + nodS l[i]!.fThen + nodS l[i]!.fElse) = b + (1 + nT l[i]!.fTerm + nodS l[i]!.fThen + nodS l[i]!.fElse) := by rw [wrap_id (by omega) (by omega)]; omega
        unfold n103_0
        simp only [GTerm.eta]
        grind
      · rw [take_succL hi, nodS_snoc]; omega) (fun b _ => by unfold n103_0; simp) (b := 0) (by simp [nodS])
  have e1' : a103_0 M ⟨l, 0, 0⟩ = some ⟨l, v, (l.length : Int)⟩ := e1
  unfold s103
  rw [e1']
  simp [hv]
theorem then_le {s : GStep} {l : List GStep} (h : s ∈ l) : nSs s.fThen ≤ nSs l ∧ nSs s.fElse ≤ nSs l := by
 have := nSs_mem h
 have := nS_eq s
 omega
theorem m103_eq : ∀ (n : Nat) (l : List GStep), SizeOf.sizeOf l < n → nSs l ≤ 1000 → m103 n l = some (nodS l)
 | 0, _, h, _ => by omega
 | n + 1, l, h, h2 => s103_eq (m103 n) l (fun s hs => ⟨m103_eq n _ (by have := sizeOf_then hs; omega) (by have := then_le hs; omega), m103_eq n _ (by have := sizeOf_then hs; omega) (by have := then_le hs; omega)⟩) h2
theorem r103_eq (l : List GStep) (h : nSs l ≤ 1000) : r103 l = some (nodS l) := lim_eq (SizeOf.sizeOf l + 1) fun n hn => m103_eq n l (by omega) h
theorem s106_eq (M : List GStep → Option E106) (l : List GStep) (hM : ∀ s ∈ l, M s.fThen = some (dSs s.fThen) ∧ M s.fElse = some (dSs s.fElse)) (h : nSs l ≤ 1000) : s106 M l = some (dSs l) := by
  have hL := nSs_len l
  obtain ⟨v, e1, hv⟩ := loopI (rnd := n106_0 M) l.length (fun i (b : Int) => ⟨l, b, (i : Int)⟩) (fun i b => b = dSs (l.take i)) (fun i b hi hb => by
      obtain ⟨k1, k4⟩ := hM _ (get_memL hi)
      have k2 := dSs_le l[i]!.fThen
      have k3 := dSs_le l[i]!.fElse
      have k5 := then_le (get_memL hi)
      have k6 := dSs_pos l[i]!.fThen
      have k7 := dSs_pos l[i]!.fElse
      have hw := w1L hi (by omega)
      refine ⟨max b (max (dSs l[i]!.fThen + 1) (dSs l[i]!.fElse + 1)), ?_, ?_⟩
      · have w1 : i64.wrap (dSs l[i]!.fThen + 1) = dSs l[i]!.fThen + 1 := wrap_id (by omega) (by omega)
        have w2 : i64.wrap (dSs l[i]!.fElse + 1) = dSs l[i]!.fElse + 1 := wrap_id (by omega) (by omega)
        unfold n106_0
        simp only [Int.toNat_natCast]
        grind
      · rw [take_succL hi, dSs_snoc]; omega) (fun b _ => by unfold n106_0; simp) (b := 0) (by simp [dSs])
  have e1' : a106_0 M ⟨l, 0, 0⟩ = some ⟨l, v, (l.length : Int)⟩ := e1
  unfold s106
  rw [e1']
  simp [hv]
theorem m106_eq : ∀ (n : Nat) (l : List GStep), SizeOf.sizeOf l < n → nSs l ≤ 1000 → m106 n l = some (dSs l)
 | 0, _, h, _ => by omega
 | n + 1, l, h, h2 => s106_eq (m106 n) l (fun s hs => ⟨m106_eq n _ (by have := sizeOf_then hs; omega) (by have := then_le hs; omega), m106_eq n _ (by have := sizeOf_then hs; omega) (by have := then_le hs; omega)⟩) h2
theorem r106_eq (l : List GStep) (h : nSs l ≤ 1000) : r106 l = some (dSs l) := lim_eq (SizeOf.sizeOf l + 1) fun n hn => m106_eq n l (by omega) h
def deep1 (s : GStep) : Bool := decide (12 < dT s.fTerm) || tDeep s.fThen || tDeep s.fElse
theorem tDeep_any (l : List GStep) : tDeep l = l.any deep1 := by
 induction l with
 | nil => rw [tDeep]; rfl
 | cons s l ih => rw [tDeep, ih, List.any_cons]; rfl
theorem s107_eq (M : List GStep → Option E107) (l : List GStep) (hM : ∀ s ∈ l, M s.fThen = some (tDeep s.fThen) ∧ M s.fElse = some (tDeep s.fElse)) (h : nSs l ≤ 1000) : s107 M l = some (tDeep l) := by
  have hL := nSs_len l
  have hT : ∀ i, i < l.length → r105 l[i]!.fTerm = some (dT l[i]!.fTerm) := fun i hi => r105_eq _ (by have := nSs_mem (get_memL hi); have := nS_eq l[i]!; omega)
  obtain ⟨i, e1, hc⟩ := loopB (rnd := n107_0 M) l (fun i => ⟨l, (i : Int)⟩) (fun _ s => !deep1 s) (fun i hi => by
      obtain ⟨k1, k4⟩ := hM _ (get_memL hi)
      have hk := hT i hi
      have hw := w1L hi (by omega)
      unfold n107_0 deep1
      simp only [Int.toNat_natCast, GTerm.eta, k1, k4]
      cases tDeep l[i]!.fThen <;> cases tDeep l[i]!.fElse <;> grind) (by unfold n107_0; simp)
  have e1' : a107_0 M ⟨l, 0⟩ = some ⟨l, (i : Int)⟩ := e1
  unfold s107
  rw [e1', tDeep_any]
  rcases hc with ⟨rfl, hc⟩ | ⟨hi, hc⟩
  · rw [not_any fun j hj => by have := hc j hj; simpa using this]
    simp
  · have hc' : deep1 l[i]! = true := by simpa using hc
    obtain ⟨k1, k4⟩ := hM _ (get_memL hi)
    have hk := hT i hi
    unfold deep1 at hc'
    simp only [Int.toNat_natCast, GTerm.eta, k1, k4]
    revert hc'
    cases tDeep l[i]!.fThen <;> cases tDeep l[i]!.fElse <;> grind
theorem m107_eq : ∀ (n : Nat) (l : List GStep), SizeOf.sizeOf l < n → nSs l ≤ 1000 → m107 n l = some (tDeep l)
 | 0, _, h, _ => by omega
 | n + 1, l, h, h2 => s107_eq (m107 n) l (fun s hs => ⟨m107_eq n _ (by have := sizeOf_then hs; omega) (by have := then_le hs; omega), m107_eq n _ (by have := sizeOf_then hs; omega) (by have := then_le hs; omega)⟩) h2
theorem r107_eq (l : List GStep) (h : nSs l ≤ 1000) : r107 l = some (tDeep l) := lim_eq (SizeOf.sizeOf l + 1) fun n hn => m107_eq n l (by omega) h
def overM (b : Measure) : Bool := b.fDeep || decide (1024 < b.fNodes)
theorem m96_eq (b : Measure) : m96 b = (overM b, b) := by
 rfl
def incM (d : Int) (b : Measure) : Measure := ⟨b.fNodes + 1, b.fDeep || decide (12 < d)⟩
def msT (t : GTerm) (d : Int) (b : Measure) : Measure := if overM (incM d b) = true then incM d b else t.fKids.attach.foldl (fun b k => msT k.1 (d + 1) b) (incM d b)
termination_by SizeOf.sizeOf t
decreasing_by exact GTerm.kids_lt k.2
def msTs (l : List GTerm) (d : Int) (b : Measure) : Measure := l.foldl (fun b k => msT k d b) b
theorem msT_eq (t : GTerm) (d : Int) (b : Measure) : msT t d b = if overM (incM d b) = true then incM d b else msTs t.fKids (d + 1) (incM d b) := by
 rw [msT, msTs]
 simp
theorem msTs_snoc (l : List GTerm) (k : GTerm) (d : Int) (b : Measure) : msTs (l ++ [k]) d b = msT k d (msTs l d b) := by simp [msTs]
def MsP (d0 : Int) (n : Int) (b r : Measure) : Prop := r.fDeep = (b.fDeep || decide (12 < d0)) ∧ b.fNodes ≤ r.fNodes ∧ r.fNodes ≤ b.fNodes + n
theorem msT_ok (t : GTerm) (d : Int) (b : Measure) (h0 : 0 ≤ d) (h1 : 0 ≤ b.fNodes) (h2 : b.fNodes + nT t ≤ 1000) : MsP (d - 1 + dT t) (nT t) b (msT t d b) := by
  have key : ∀ (n : Nat) (t : GTerm) (d : Int) (b : Measure), SizeOf.sizeOf t < n → 0 ≤ d → 0 ≤ b.fNodes → b.fNodes + nT t ≤ 1000 → MsP (d - 1 + dT t) (nT t) b (msT t d b) := by
    intro n
    induction n with
    | zero => intro t d b h; omega
    | succ n ih =>
      intro t d b h h0 h1 h2
      have hN := nT_eq t
      have hD := dT_eq t
      have hd0 := dTs_pos t.fKids
      rw [msT_eq]
      by_cases ho : overM (incM d b) = true
      · rw [if_pos ho]
        unfold overM incM at ho
        unfold MsP incM
        grind
      · rw [if_neg ho]
        have hi : ∀ i, i ≤ t.fKids.length → MsP (d + dTs (t.fKids.take i)) (nTs (t.fKids.take i)) (incM d b) (msTs (t.fKids.take i) (d + 1) (incM d b)) := by
          intro i
          induction i with
          | zero =>
            simp only [msTs, MsP, dTs, incM]
            grind
          | succ i ihi =>
            intro hi
            have q := ihi (by omega)
            have hs := nTs_step (show i < t.fKids.length by omega)
            have hm : t.fKids[i]! ∈ t.fKids := get_memL (by omega)
            have hp : (incM d b).fNodes = b.fNodes + 1 := rfl
            have q2 := ih t.fKids[i]! (d + 1) (msTs (t.fKids.take i) (d + 1) (incM d b)) (by have := GTerm.kids_lt hm; omega) (by omega) (by have := q.2.1; omega) (by have := q.2.2; omega)
            rw [take_succL (by omega), msTs_snoc, dTs_snoc, nTs_snoc]
            obtain ⟨a1, a2, a3⟩ := q
            obtain ⟨c1, c2, c3⟩ := q2
            refine ⟨?_, by omega, by omega⟩
            rw [c1, a1]
            rw [Bool.or_assoc]
            congr 1
            rw [← Bool.decide_or]
            apply decide_eq_decide.2
            omega
        have q := hi t.fKids.length (Nat.le_refl _)
        unfold MsP at q ⊢
        have hp : (incM d b).fNodes = b.fNodes + 1 := rfl
        have hp2 : (incM d b).fDeep = (b.fDeep || decide (12 < d)) := rfl
        grind
  exact key _ t d b (Nat.lt_succ_self _) h0 h1 h2
theorem s97_eq (M : GTerm → Int → Measure → Option E97) (t : GTerm) (hM : ∀ k ∈ t.fKids, ∀ (d : Int) (b : Measure), 0 ≤ d → d ≤ 13 → 0 ≤ b.fNodes → b.fNodes + nT k ≤ 1000 → M k d b = some (msT k d b)) (d : Int) (b : Measure) (h0 : 0 ≤ d) (hd : d ≤ 13) (h1 : 0 ≤ b.fNodes) (h2 : b.fNodes + nT t ≤ 1000) : s97 M t d b = some (msT t d b) := by
  have hN := nT_eq t
  have hL := nTs_len t.fKids
  have hw0 : i64.wrap (b.fNodes + 1) = b.fNodes + 1 := wrap_id (by omega) (by omega)
  have hw1 : i64.wrap (d + 1) = d + 1 := wrap_id (by omega) (by omega)
  have hinc : ∀ x, (⟨b.fNodes + 1, x⟩ : Measure) = incM d b ↔ x = (b.fDeep || decide (12 < d)) := fun x => by unfold incM; simp
  have key : overM (incM d b) = false → d ≤ 12 ∧ a97_0 M ⟨d, t.fKids, (t.fKids.length : Int), 0, incM d b⟩ = some ⟨d, t.fKids, (t.fKids.length : Int), (t.fKids.length : Int), msTs t.fKids (d + 1) (incM d b)⟩ := fun ho => by
    have hd2 : d ≤ 12 := by unfold overM incM at ho; grind
    refine ⟨hd2, ?_⟩
    obtain ⟨v, e1, hv, _⟩ := loopI (rnd := n97_0 M) t.fKids.length (fun i (x : Measure) => ⟨d, t.fKids, (t.fKids.length : Int), (i : Int), x⟩) (fun i x => x = msTs (t.fKids.take i) (d + 1) (incM d b) ∧ b.fNodes + 1 ≤ x.fNodes ∧ x.fNodes ≤ b.fNodes + 1 + nTs (t.fKids.take i)) (fun i x hi hx => by
        have hs := nTs_step hi
        have hk := hM _ (get_memL hi) (d + 1) x (by omega) (by omega) (by omega) (by omega)
        have hp := msT_ok t.fKids[i]! (d + 1) x (by omega) (by omega) (by omega)
        have hw := w1L hi (by omega)
        refine ⟨msT t.fKids[i]! (d + 1) x, ?_, ?_⟩
        · unfold n97_0
          simp only [GTerm.eta]
          grind
        · unfold MsP at hp
          rw [take_succL hi, msTs_snoc, ← hx.1, nTs_snoc]
          exact ⟨rfl, by omega, by omega⟩) (fun x _ => by unfold n97_0; simp) (b := incM d b) ⟨rfl, Int.le_refl _, by show b.fNodes + 1 ≤ _; simp [nTs]⟩
    rw [List.take_length] at hv
    rw [← hv]
    exact e1
  rw [msT_eq]
  unfold s97
  rw [hw0]
  have hm : ∀ x, x = (b.fDeep || decide (12 < d)) → m96 ⟨b.fNodes + 1, x⟩ = (overM (incM d b), incM d b) := fun x hx => by rw [m96_eq, (hinc x).2 hx]
  cases hb : b.fDeep with
  | true =>
    rw [hm true (by rw [hb]; rfl)]
    have ho : overM (incM d b) = true := by unfold overM incM; simp [hb]
    simp [ho]
  | false =>
    rw [hm (decide (12 < d)) (by rw [hb]; rfl)]
    cases ho : overM (incM d b) with
    | true => simp
    | false =>
      obtain ⟨_, e⟩ := key ho
      rw [e]
      simp
theorem m97_eq : ∀ (n : Nat) (t : GTerm) (d : Int) (b : Measure), SizeOf.sizeOf t < n → 0 ≤ d → d ≤ 13 → 0 ≤ b.fNodes → b.fNodes + nT t ≤ 1000 → m97 n t d b = some (msT t d b)
 | 0, _, _, _, h, _, _, _, _ => by omega
 | n + 1, t, d, b, h, h0, hd, h1, h2 => s97_eq (m97 n) t (fun k hk d b a1 a2 a3 a4 => m97_eq n k d b (by have := GTerm.kids_lt hk; omega) a1 a2 a3 a4) d b h0 hd h1 h2
theorem r97_eq (t : GTerm) (d : Int) (b : Measure) (h0 : 0 ≤ d) (hd : d ≤ 13) (h1 : 0 ≤ b.fNodes) (h2 : b.fNodes + nT t ≤ 1000) : r97 t d b = some (msT t d b) := lim_eq (SizeOf.sizeOf t + 1) fun n hn => m97_eq n t d b (by omega) h0 hd h1 h2
def msS (d : Int) : List GStep → Measure → Measure
 | [], b => b
 | s :: l, b => if overM (incM d b) = true then incM d b else msS d l (msS (d + 1) s.fElse (msS (d + 1) s.fThen (msT s.fTerm 1 (incM d b))))
termination_by l => SizeOf.sizeOf l
decreasing_by
  · exact (sizeOf_then (List.mem_cons_self ..)).1
  · exact (sizeOf_then (List.mem_cons_self ..)).2
  · exact size_tail _ _
theorem msS_ok (d : Int) (l : List GStep) (b : Measure) (h0 : 0 ≤ d) (hd : d ≤ 13) (h1 : 0 ≤ b.fNodes) (h2 : b.fNodes + nSs l ≤ 1000) : (msS d l b).fDeep = (b.fDeep || (decide (12 < d - 1 + dSs l) || tDeep l)) ∧ b.fNodes ≤ (msS d l b).fNodes ∧ (msS d l b).fNodes ≤ b.fNodes + nSs l := by
  have key : ∀ (n : Nat) (d : Int) (l : List GStep) (b : Measure), SizeOf.sizeOf l < n → 0 ≤ d → d ≤ 13 → 0 ≤ b.fNodes → b.fNodes + nSs l ≤ 1000 → (msS d l b).fDeep = (b.fDeep || (decide (12 < d - 1 + dSs l) || tDeep l)) ∧ b.fNodes ≤ (msS d l b).fNodes ∧ (msS d l b).fNodes ≤ b.fNodes + nSs l := by
    intro n
    induction n with
    | zero => intro d l b h; omega
    | succ n ih =>
      intro d l b h h0 hd h1 h2
      cases l with
      | nil =>
        rw [msS, dSs, tDeep]
        refine ⟨?_, by omega, by simp [nSs]⟩
        rw [decide_eq_false (by omega)]
        simp
      | cons s l =>
        have hz := sizeOf_then (l := s :: l) (List.mem_cons_self ..)
        have hz2 := size_tail s l
        have hN := nS_eq s
        have hC := nSs_cons s l
        have p1 := dSs_pos s.fThen
        have p2 := dSs_pos s.fElse
        have p3 := dSs_pos l
        have p4 := dT_pos s.fTerm
        have hp : (incM d b).fNodes = b.fNodes + 1 := rfl
        have hp2 : (incM d b).fDeep = (b.fDeep || decide (12 < d)) := rfl
        rw [msS, dSs, tDeep]
        by_cases ho : overM (incM d b) = true
        · rw [if_pos ho]
          unfold overM incM at ho
          unfold incM
          dsimp only at ho ⊢
          refine ⟨?_, by omega, by omega⟩
          grind
        · rw [if_neg ho]
          unfold overM at ho
          rw [hp, hp2] at ho
          have hb : b.fDeep = false := by grind
          have hd2 : d ≤ 12 := by grind
          obtain ⟨a1, a2, a3⟩ := msT_ok s.fTerm 1 (incM d b) (by omega) (by omega) (by omega)
          obtain ⟨c1, c2, c3⟩ := ih (d + 1) s.fThen (msT s.fTerm 1 (incM d b)) (by omega) (by omega) (by omega) (by omega) (by omega)
          obtain ⟨g1, g2, g3⟩ := ih (d + 1) s.fElse _ (by omega) (by omega) (by omega) (Int.le_trans (by omega) c2) (by omega)
          obtain ⟨k1, k2, k3⟩ := ih d l _ (by omega) h0 hd (Int.le_trans (by omega) g2) (by omega)
          refine ⟨?_, by omega, by omega⟩
          rw [k1, g1, c1, a1, hp2, hb]
          rw [decide_eq_false (show ¬ 12 < d by omega)]
          have e1 : decide (12 < 1 - 1 + dT s.fTerm) = decide (12 < dT s.fTerm) := by congr 1; rw [show (1 : Int) - 1 + dT s.fTerm = dT s.fTerm by omega]
          rw [e1]
          have e2 : decide (12 < d - 1 + max (max (dSs s.fThen + 1) (dSs s.fElse + 1)) (dSs l)) = (decide (12 < d + 1 - 1 + dSs s.fThen) || (decide (12 < d + 1 - 1 + dSs s.fElse) || decide (12 < d - 1 + dSs l))) := by
            rw [← Bool.decide_or, ← Bool.decide_or]
            apply decide_eq_decide.2
            omega
          rw [e2]
          generalize decide (12 < dT s.fTerm) = x1
          generalize decide (12 < d + 1 - 1 + dSs s.fThen) = x2
          generalize decide (12 < d + 1 - 1 + dSs s.fElse) = x3
          generalize decide (12 < d - 1 + dSs l) = x4
          generalize tDeep s.fThen = x5
          generalize tDeep s.fElse = x6
          generalize tDeep l = x7
          revert x1 x2 x3 x4 x5 x6 x7
          decide
  exact key _ d l b (Nat.lt_succ_self _) h0 hd h1 h2
theorem firstC_zero {α : Type} [Inhabited α] {c : Nat → α → Int} : ∀ (l : List α) (i : Nat), firstC c l i = 0 → ∀ j, j < l.length → c (i + j) l[j]! = 0
  | [], i, _, j, hj => by simp at hj
  | x :: xs, i, h, j, hj => by
    unfold firstC at h
    split at h
    · rename_i hx
      cases j with
      | zero => exact hx
      | succ j =>
        have := firstC_zero xs (i + 1) h j (by simpa using hj)
        rw [show i + 1 + j = i + (j + 1) by omega] at this
        assumption
    · omega
def VarsOk (vars : List GVar) : Prop := ∀ v ∈ vars, -1048576 ≤ v.fLow ∧ v.fLow ≤ v.fHigh ∧ v.fHigh ≤ 1048576
theorem varC_zero {vars : List GVar} {i : Nat} {v : GVar} (h : varC vars i v = 0) : -1048576 ≤ v.fLow ∧ v.fLow ≤ v.fHigh ∧ v.fHigh ≤ 1048576 := by
 unfold varC boundB at h
 grind
theorem varsOk_of {vars : List GVar} (h : firstC (varC vars) vars 0 = 0) : VarsOk vars := fun v hv => by
 obtain ⟨i, hi, e⟩ := List.getElem_of_mem hv
 have := firstC_zero _ _ h i hi
 rw [getElem!_pos vars i hi, e] at this
 exact varC_zero this
theorem spc_filter (kind : Int) : ∀ (l : List GVar) (i : Nat) (n : Int), goE (fun _ (n : Int) (v : GVar) => if 4096 < n * (v.fHigh - v.fLow + 1) then (.inr () : Int ⊕ Unit) else .inl (n * (v.fHigh - v.fLow + 1))) (fun _ => (none : Option Int)) some (l.filter fun v => decide (v.fKind = kind)) i n = spc kind l n
  | [], i, n => rfl
  | v :: vs, i, n => by
    unfold spc
    by_cases hv : v.fKind = kind
    · rw [List.filter_cons_of_pos (by simpa using hv), if_pos hv]
      by_cases h : 4096 < n * (v.fHigh - v.fLow + 1)
      · rw [if_pos h, goE_inr (r := ()) (by rw [if_pos h])]
      · rw [if_neg h, goE_inl (by rw [if_neg h])]
        exact spc_filter kind vs (i + 1) _
    · rw [List.filter_cons_of_neg (by simpa using hv), if_neg hv]
      exact spc_filter kind vs i n
theorem spc_skip (kind : Int) : ∀ (l : List GVar) (i : Nat) (n : Int), goE (fun _ (n : Int) (v : GVar) => if v.fKind = kind then (if 4096 < n * (v.fHigh - v.fLow + 1) then (.inr () : Int ⊕ Unit) else .inl (n * (v.fHigh - v.fLow + 1))) else .inl n) (fun _ => (none : Option Int)) some l i n = spc kind l n
  | [], i, n => rfl
  | v :: vs, i, n => by
    unfold spc
    by_cases hv : v.fKind = kind
    · rw [if_pos hv]
      by_cases h : 4096 < n * (v.fHigh - v.fLow + 1)
      · rw [if_pos h, goE_inr (r := ()) (by rw [if_pos hv, if_pos h])]
      · rw [if_neg h, goE_inl (b' := n * (v.fHigh - v.fLow + 1)) (by rw [if_pos hv, if_neg h])]
        exact spc_skip kind vs (i + 1) _
    · rw [if_neg hv, goE_inl (b' := n) (by rw [if_neg hv])]
      exact spc_skip kind vs (i + 1) n
theorem size_bd {v : GVar} (h : -1048576 ≤ v.fLow ∧ v.fLow ≤ v.fHigh ∧ v.fHigh ≤ 1048576) {n : Int} (h1 : 1 ≤ n) (h2 : n ≤ 4096) :
  1 ≤ n * (v.fHigh - v.fLow + 1) ∧ i64.wrap (v.fHigh - v.fLow) = v.fHigh - v.fLow ∧ i64.wrap (v.fHigh - v.fLow + 1) = v.fHigh - v.fLow + 1 ∧ i64.wrap (n * (v.fHigh - v.fLow + 1)) = n * (v.fHigh - v.fLow + 1) := by
 have e1 : 0 ≤ (n - 1) * (v.fHigh - v.fLow + 1) := Int.mul_nonneg (by omega) (by omega)
 have e2 : n * (v.fHigh - v.fLow + 1) ≤ 4096 * (v.fHigh - v.fLow + 1) := Int.mul_le_mul_of_nonneg_right h2 (by omega)
 have e3 : (n - 1) * (v.fHigh - v.fLow + 1) = n * (v.fHigh - v.fLow + 1) - (v.fHigh - v.fLow + 1) := by rw [Int.sub_mul, Int.one_mul]
 exact ⟨by omega, wrap_id (by omega) (by omega), wrap_id (by omega) (by omega), wrap_id (by omega) (by omega)⟩
theorem a226_0_eq (vars : List GVar) (hv : VarsOk vars) (hl : vars.length ≤ 1000000) (kind : Int) : a226_0 ⟨kind, [], vars, (vars.length : Int), 0⟩ = some ⟨kind, vars.filter (fun v => decide (v.fKind = kind)), vars, (vars.length : Int), (vars.length : Int)⟩ := by
  obtain ⟨v, e1, hV⟩ := loopI (rnd := n226_0) vars.length (fun i (b : List GVar) => ⟨kind, b, vars, (vars.length : Int), (i : Int)⟩) (fun i b => b = (vars.take i).filter fun v => decide (v.fKind = kind)) (fun i b hi hb => by
    have hw := w1L hi hl
    have hv := hv _ (get_memL hi)
    have hb2 : b.length ≤ i := by rw [hb]; exact Nat.le_trans (List.length_filter_le _ _) (by rw [List.length_take]; omega)
    rw [take_succL hi, List.filter_append, ← hb]
    by_cases hk : vars[i]!.fKind = kind
    · refine ⟨b ++ [vars[i]!], ?_, ?_⟩
      · have hl2 : (b ++ [vars[i]!]).length ≤ 1073741824 := by simp; omega
        unfold n226_0
        grind
      · revert hk
        generalize vars[i]! = x
        intro hk
        simp [hk]
    · refine ⟨b, ?_, ?_⟩
      · unfold n226_0
        grind
      · revert hk
        generalize vars[i]! = x
        intro hk
        simp [hk]) (fun b _ => by unfold n226_0; simp) (b := []) rfl
  rw [List.take_length] at hV
  rw [← hV]
  exact e1
theorem a226_1_eq (F : List GVar) (hv : VarsOk F) (hl : F.length ≤ 1000000) :
    ∃ (i : Nat) (n : Int), a226_1 ⟨F, 1, F, (F.length : Int), 0⟩ = some ⟨F, n, F, (F.length : Int), (i : Int)⟩ ∧ ((i = F.length ∧ goE (fun _ (n : Int) (v : GVar) => if 4096 < n * (v.fHigh - v.fLow + 1) then (.inr () : Int ⊕ Unit) else .inl (n * (v.fHigh - v.fLow + 1))) (fun _ => (none : Option Int)) some F 0 1 = some n) ∨
      (i < F.length ∧ 4096 < i64.wrap (n * m277 F[i]!) ∧ goE (fun _ (n : Int) (v : GVar) => if 4096 < n * (v.fHigh - v.fLow + 1) then (.inr () : Int ⊕ Unit) else .inl (n * (v.fHigh - v.fLow + 1))) (fun _ => (none : Option Int)) some F 0 1 = none)) := by
  have hm : ∀ (i : Nat) (n : Int), i < F.length → 1 ≤ n → n ≤ 4096 → i64.wrap (n * m277 F[i]!) = n * (F[i]!.fHigh - F[i]!.fLow + 1) := fun i n hi h1 h2 => by
    obtain ⟨a, b, c, d⟩ := size_bd (hv _ (get_memL hi)) h1 h2
    unfold m277
    rw [b, c, d]
  obtain ⟨i, n, e1, hI, hc⟩ := loopV (rnd := n226_1) F (fun i (n : Int) => ⟨F, n, F, (F.length : Int), (i : Int)⟩) (fun _ (n : Int) (v : GVar) => if 4096 < n * (v.fHigh - v.fLow + 1) then (.inr () : Int ⊕ Unit) else .inl (n * (v.fHigh - v.fLow + 1))) (fun _ => (none : Option Int)) some (fun i n => 1 ≤ n ∧ n ≤ 4096) (fun i n hi hI => by
    have hw := w1L hi hl
    have h1 := hm i n hi hI.1 hI.2
    have h2 := (size_bd (hv _ (get_memL hi)) hI.1 hI.2).1
    unfold n226_1
    simp only [Int.toNat_natCast]
    grind) (fun b _ => by unfold n226_1; simp) (b := 1) ⟨by omega, by omega⟩
  refine ⟨i, n, e1, ?_⟩
  rcases hc with ⟨h1, h2⟩ | ⟨h1, r, h2, h3⟩
  · exact .inl ⟨h1, h2⟩
  · refine .inr ⟨h1, ?_, h3⟩
    rw [hm i n h1 hI.1 hI.2]
    by_cases h : 4096 < n * (F[i]!.fHigh - F[i]!.fLow + 1)
    · exact h
    · rw [if_neg h] at h2
      cases h2
theorem m166_eq (vars : List GVar) (hv : VarsOk vars) (hl : vars.length ≤ 1000000) (kind : Int) (hk : kind = 1 ∨ kind = 2 ∨ kind = 3) : m166 vars kind = some (match spc kind vars 1 with | some n => (n, 0) | none => (0, 4)) := by
  have e0 := a226_0_eq vars hv hl kind
  obtain ⟨i, n, e1, hc⟩ := a226_1_eq (vars.filter fun v => decide (v.fKind = kind)) (fun v h => hv v (List.mem_filter.1 h).1) (Nat.le_trans (List.length_filter_le _ _) hl)
  rw [spc_filter] at hc
  unfold m166 m226
  rcases hk with rfl | rfl | rfl
  all_goals
    simp only [e0, e1]
    rcases hc with ⟨rfl, hc⟩ | ⟨hi, h2, hc⟩
    · simp [hc]
    · simp only [Int.toNat_natCast, h2, hc]
      simp [hi]
theorem m108_eq (vars : List GVar) (hv : VarsOk vars) (hl : vars.length ≤ 1000000) (kind : Int) : m108 vars kind = some (match spc kind vars 1 with | some n => n | none => 4097) := by
  have hm : ∀ (i : Nat) (n : Int), i < vars.length → 1 ≤ n → n ≤ 4096 → i64.wrap (n * i64.wrap (i64.wrap (vars[i]!.fHigh - vars[i]!.fLow) + 1)) = n * (vars[i]!.fHigh - vars[i]!.fLow + 1) := fun i n hi h1 h2 => by
    obtain ⟨a, b, c, d⟩ := size_bd (hv _ (get_memL hi)) h1 h2
    rw [b, c, d]
  obtain ⟨i, n, e1, hI, hc⟩ := loopV (rnd := n108_0) vars (fun i (n : Int) => ⟨vars, kind, n, (i : Int)⟩) (fun _ (n : Int) (v : GVar) => if v.fKind = kind then (if 4096 < n * (v.fHigh - v.fLow + 1) then (.inr () : Int ⊕ Unit) else .inl (n * (v.fHigh - v.fLow + 1))) else .inl n) (fun _ => (none : Option Int)) some (fun i n => 1 ≤ n ∧ n ≤ 4096) (fun i n hi hI => by
    have hw := w1L hi hl
    have h1 := hm i n hi hI.1 hI.2
    have h2 := (size_bd (hv _ (get_memL hi)) hI.1 hI.2).1
    unfold n108_0
    simp only [Int.toNat_natCast]
    grind) (fun b _ => by unfold n108_0; simp) (b := 1) ⟨by omega, by omega⟩
  rw [spc_skip] at hc
  have e1' : a108_0 ⟨vars, kind, 1, 0⟩ = some ⟨vars, kind, n, (i : Int)⟩ := e1
  unfold m108
  rw [e1']
  rcases hc with ⟨rfl, hc⟩ | ⟨hi, r, h2, hc⟩
  · simp [hc]
  · have h1 := hm i n hi hI.1 hI.2
    grind
theorem spc_bd (kind : Int) : ∀ (l : List GVar) (n m : Int), n ≤ 4096 → spc kind l n = some m → m ≤ 4096
  | [], n, m, h, e => by unfold spc at e; cases e; exact h
  | v :: vs, n, m, h, e => by
    unfold spc at e
    split at e
    · split at e
      · cases e
      · exact spc_bd kind vs _ m (by omega) e
    · exact spc_bd kind vs n m h e
theorem round111 (vars : List GVar) (hl : vars.length ≤ 1000000) (i : Nat) (hi : i < vars.length) : (varC vars i vars[i]! = 0 → n98_0 ⟨vars, vars, (vars.length : Int), (i : Int)⟩ = some (some ⟨vars, vars, (vars.length : Int), ((i + 1 : Nat) : Int)⟩)) ∧ (varC vars i vars[i]! ≠ 0 → n98_0 ⟨vars, vars, (vars.length : Int), (i : Int)⟩ = some none) := by
 have hw := w1L hi hl
 have h1 := m163_eq vars[i]!.fName
 have h2 := m164_eq (vars.take i) (by rw [List.length_take]; omega) vars[i]!
 unfold n98_0 varC
 simp only [Int.toNat_natCast, m165_eq, h1, h2]
 generalize nameB vars[i]!.fName = B
 generalize ((vars.take i).any fun w => w.fName.toList == vars[i]!.fName.toList) = A
 generalize boundB vars[i]!.fLow vars[i]!.fHigh = C
 cases A <;> cases B <;> cases C <;> simp only [cond_true] <;> grind
theorem m98_eq (vars : List GVar) (hl : vars.length ≤ 1000000) : m98 vars = some (varsC vars) := by
  obtain ⟨i, e1, hc⟩ := loopC (rnd := n98_0) vars (fun i => ⟨vars, vars, (vars.length : Int), (i : Int)⟩) (varC vars) (fun i hi => round111 vars hl i hi) (by unfold n98_0; simp)
  have e1' : a98_0 ⟨vars, vars, (vars.length : Int), 0⟩ = some ⟨vars, vars, (vars.length : Int), (i : Int)⟩ := e1
  unfold m98 varsC
  rw [e1']
  dsimp only
  rcases hc with ⟨rfl, hc⟩ | ⟨hi, h0, hc⟩
  · have hv := varsOk_of hc
    rw [decide_eq_false (by omega), cond_false, if_neg (by rw [hc]; simp)]
    have hr : ∀ k : Nat, k < 3 → i64.wrap ((k : Int) + 1) = ((k + 1 : Nat) : Int) := fun k hk => w1L hk (by decide)
    have k1 := m166_eq vars hv hl 1 (.inl rfl)
    have k2 := m166_eq vars hv hl 2 (.inr (.inl rfl))
    have k3 := m166_eq vars hv hl 3 (.inr (.inr rfl))
    have r1 : n98_1 ⟨vars, [1, 2, 3], 3, 0⟩ = match spc 1 vars 1 with | some _ => some (some ⟨vars, [1, 2, 3], 3, 1⟩) | none => some none := by
      unfold n98_1
      simp [k1]
      cases spc 1 vars 1 with
      | none => simp
      | some n => simp; exact hr 0 (by decide)
    have r2 : n98_1 ⟨vars, [1, 2, 3], 3, 1⟩ = match spc 2 vars 1 with | some _ => some (some ⟨vars, [1, 2, 3], 3, 2⟩) | none => some none := by
      unfold n98_1
      simp [k2]
      cases spc 2 vars 1 with
      | none => simp
      | some n => simp; exact hr 1 (by decide)
    have r3 : n98_1 ⟨vars, [1, 2, 3], 3, 2⟩ = match spc 3 vars 1 with | some n => if 256 < n then some none else some (some ⟨vars, [1, 2, 3], 3, 3⟩) | none => some none := by
      unfold n98_1
      simp [k3]
      cases spc 3 vars 1 with
      | none => simp
      | some n =>
        by_cases h : 256 < n
        · simp [h]
        · simp [h]; exact hr 2 (by decide)
    unfold spaceB
    cases s1 : spc 1 vars 1 with
    | none =>
      rw [s1] at r1 k1
      have e : a98_1 ⟨vars, [1, 2, 3], 3, 0⟩ = some ⟨vars, [1, 2, 3], 3, 0⟩ := advG_stop fun r => by rw [r1]; simp
      rw [show ((↑(3 : Int) : Int)) = 3 from rfl, e]
      simp [k1]
    | some n1 =>
      rw [s1] at r1 k1
      cases s2 : spc 2 vars 1 with
      | none =>
        rw [s2] at r2 k2
        have e : a98_1 ⟨vars, [1, 2, 3], 3, 0⟩ = some ⟨vars, [1, 2, 3], 3, 1⟩ := (advG_step r1).trans (advG_stop fun r => by rw [r2]; simp)
        rw [show ((↑(3 : Int) : Int)) = 3 from rfl, e]
        simp [k2]
      | some n2 =>
        rw [s2] at r2 k2
        cases s3 : spc 3 vars 1 with
        | none =>
          rw [s3] at r3 k3
          have e : a98_1 ⟨vars, [1, 2, 3], 3, 0⟩ = some ⟨vars, [1, 2, 3], 3, 2⟩ := (advG_step r1).trans ((advG_step r2).trans (advG_stop fun r => by rw [r3]; simp))
          rw [show ((↑(3 : Int) : Int)) = 3 from rfl, e]
          simp [k3]
        | some n3 =>
          rw [s3] at r3 k3
          dsimp only at r3
          by_cases h : 256 < n3
          · rw [if_pos h] at r3
            have e : a98_1 ⟨vars, [1, 2, 3], 3, 0⟩ = some ⟨vars, [1, 2, 3], 3, 2⟩ := (advG_step r1).trans ((advG_step r2).trans (advG_stop fun r => by rw [r3]; simp))
            rw [show ((↑(3 : Int) : Int)) = 3 from rfl, e]
            simp [k3, h]
          · rw [if_neg h] at r3
            have e : a98_1 ⟨vars, [1, 2, 3], 3, 0⟩ = some ⟨vars, [1, 2, 3], 3, 3⟩ := (advG_step r1).trans ((advG_step r2).trans ((advG_step r3).trans (advG_stop fun r => by unfold n98_1; simp)))
            rw [show ((↑(3 : Int) : Int)) = 3 from rfl, e]
            simp [h]
  · have h1 := m163_eq vars[i]!.fName
    have h2 := m164_eq (vars.take i) (by rw [List.length_take]; omega) vars[i]!
    rw [hc, if_pos h0]
    revert h0
    unfold varC
    simp only [Bool.cond_decide, Int.toNat_natCast, m165_eq, h1, h2]
    generalize nameB vars[i]!.fName = B
    generalize ((vars.take i).any fun w => w.fName.toList == vars[i]!.fName.toList) = A
    generalize boundB vars[i]!.fLow vars[i]!.fHigh = C
    intro h0
    cases A <;> cases B <;> cases C <;> simp only [cond_true, cond_false] at h0 ⊢ <;> grind
theorem round59 (vars : List GVar) (hl : vars.length ≤ 1000000) (i : Nat) (hi : i < vars.length) : (varC vars i vars[i]! = 0 → n51_0 ⟨vars, (i : Int)⟩ = some (some ⟨vars, ((i + 1 : Nat) : Int)⟩)) ∧ (varC vars i vars[i]! ≠ 0 → n51_0 ⟨vars, (i : Int)⟩ = some none) := by
  have hw := w1L hi hl
  have h1 := m52_eq vars[i]!.fName
  obtain ⟨j, h2, h3⟩ := a51_1_eq vars hl i (by omega) vars[i]!
  unfold n51_0 varC
  simp only [Int.toNat_natCast, m53_eq, h1, h2]
  generalize nameB vars[i]!.fName = B
  generalize ((vars.take i).any fun w => w.fName.toList == vars[i]!.fName.toList) = A at h3
  generalize boundB vars[i]!.fLow vars[i]!.fHigh = C
  rcases h3 with ⟨rfl, rfl⟩ | ⟨hj, h4, rfl⟩
  · cases B <;> cases C <;> simp only [cond_true] <;> grind
  · simp only
    cases B <;> cases C <;> simp only [cond_true] <;> grind
theorem m51_eq (vars : List GVar) (hl : vars.length ≤ 1000000) : m51 vars = some (varsC vars) := by
  obtain ⟨i, e1, hc⟩ := loopC (rnd := n51_0) vars (fun i => ⟨vars, (i : Int)⟩) (varC vars) (fun i hi => round59 vars hl i hi) (by unfold n51_0; simp)
  have e1' : a51_0 ⟨vars, 0⟩ = some ⟨vars, (i : Int)⟩ := e1
  unfold m51 varsC
  rw [e1']
  dsimp only
  rcases hc with ⟨rfl, hc⟩ | ⟨hi, h0, hc⟩
  · have hv := varsOk_of hc
    rw [m108_eq vars hv hl 1, m108_eq vars hv hl 2, m108_eq vars hv hl 3]
    have b1 := spc_bd 1 vars 1
    have b2 := spc_bd 2 vars 1
    unfold spaceB
    revert b1 b2
    cases spc 1 vars 1 <;> cases spc 2 vars 1 <;> cases spc 3 vars 1 <;> intro b1 b2 <;> simp only [Option.isSome_none, Option.isSome_some] <;> (try have c1 := b1 _ (by omega) rfl) <;> (try have c2 := b2 _ (by omega) rfl) <;> grind
  · have h1 := m52_eq vars[i]!.fName
    obtain ⟨j, h2, h3⟩ := a51_1_eq vars hl i (by omega) vars[i]!
    rw [hc, if_pos h0]
    revert h0
    unfold varC
    simp only [Int.toNat_natCast, m53_eq, h1, h2]
    generalize nameB vars[i]!.fName = B
    generalize ((vars.take i).any fun w => w.fName.toList == vars[i]!.fName.toList) = A at h3
    generalize boundB vars[i]!.fLow vars[i]!.fHigh = C
    intro h0
    rcases h3 with ⟨rfl, rfl⟩ | ⟨hj, h4, rfl⟩
    · cases B <;> cases C <;> simp only [cond_true] at h0 ⊢ <;> grind
    · simp only [h4]
      cases B <;> cases C <;> simp only [cond_true, cond_false] at h0 ⊢ <;> grind
theorem m278_eq (o : Int) : m278 o = kidsN o := by
 unfold m278 kidsN
 grind
theorem m174_eq (o : Int) : m174 o = if o = 25 then -2 else (kidsN o).1 := by
 unfold m174 kidsN
 grind (splits := 40)
theorem s228_eq (M : List GVar → GTerm → Bool → Option E228) (vars : List GVar) (inp : Bool) (t : GTerm) (hM : ∀ k ∈ t.fKids, M vars k inp = some (formS vars inp k)) : s228 M vars t inp = some (formS vars inp t) := by
  have key : t.fKids.length ≤ 1000000 → ∃ i : Nat, a228_0 M ⟨vars, inp, t.fKids, (t.fKids.length : Int), 0⟩ = some ⟨vars, inp, t.fKids, (t.fKids.length : Int), (i : Int)⟩ ∧ ((i = t.fKids.length ∧ t.fKids.all (formS vars inp) = true) ∨ (i < t.fKids.length ∧ formS vars inp t.fKids[i]! = false ∧ t.fKids.all (formS vars inp) = false)) := fun hl => by
    obtain ⟨i, e1, hc⟩ := loopB (rnd := n228_0 M) t.fKids (fun i => ⟨vars, inp, t.fKids, (t.fKids.length : Int), (i : Int)⟩) (fun _ k => formS vars inp k) (fun i hi => by
      have hw := w1L hi hl
      have hk := hM _ (get_memL hi)
      unfold n228_0
      simp only [Int.toNat_natCast, GTerm.eta, hk, hw]
      cases formS vars inp t.fKids[i]! <;> simp [hi]) (by unfold n228_0; simp)
    refine ⟨i, e1, ?_⟩
    rcases hc with ⟨rfl, hc⟩ | ⟨hi, hc⟩
    · exact .inl ⟨rfl, all_of hc⟩
    · exact .inr ⟨hi, hc, not_all hi hc⟩
  unfold s228
  rw [m278_eq, formS_eq]
  unfold form0
  by_cases hn : 0 ≤ (kidsN t.fOp).1 ∧ (kidsN t.fOp).1 ≤ t.fKids.length ∧ (t.fKids.length : Int) ≤ (kidsN t.fOp).2
  · have h33 : (kidsN t.fOp).2 ≤ 33 := by unfold kidsN; grind
    obtain ⟨i, e, hc⟩ := key (by omega)
    rw [decide_eq_true hn, decide_eq_false (show ¬ (kidsN t.fOp).1 < 0 by omega), decide_eq_false (show ¬ (t.fKids.length : Int) < (kidsN t.fOp).1 by omega), decide_eq_false (show ¬ (kidsN t.fOp).2 < (t.fKids.length : Int) by omega), e]
    generalize t.fKids.all (formS vars inp) = A at hc
    simp only [Int.toNat_natCast]
    rcases hc with ⟨rfl, rfl⟩ | ⟨hi, h2, rfl⟩
    · cases inp <;> grind
    · have hk := hM _ (get_memL hi)
      simp only [GTerm.eta]
      cases inp <;> grind
  · rw [decide_eq_false hn]
    grind
theorem m228_eq (vars : List GVar) (inp : Bool) : ∀ (n : Nat) (t : GTerm), SizeOf.sizeOf t < n → m228 n vars t inp = some (formS vars inp t)
 | 0, _, h => by omega
 | n + 1, t, h => s228_eq (m228 n) vars inp t (fun k hk => m228_eq vars inp n k (by have := GTerm.kids_lt hk; omega))
theorem r228_eq (vars : List GVar) (inp : Bool) (t : GTerm) : r228 vars t inp = some (formS vars inp t) := lim_eq (SizeOf.sizeOf t + 1) fun n hn => m228_eq vars inp n t (by omega)
theorem s109_eq (M : List GVar → GTerm → Bool → Option E109) (vars : List GVar) (inp : Bool) (t : GTerm) (hM : ∀ k ∈ t.fKids, M vars k inp = some (formS vars inp k)) : s109 M vars t inp = some (formS vars inp t) := by
  have key : t.fKids.length ≤ 1000000 → ∃ i : Nat, a109_0 M ⟨vars, inp, 0, t⟩ = some ⟨vars, inp, (i : Int), t⟩ ∧ ((i = t.fKids.length ∧ t.fKids.all (formS vars inp) = true) ∨ (i < t.fKids.length ∧ formS vars inp t.fKids[i]! = false ∧ t.fKids.all (formS vars inp) = false)) := fun hl => by
    obtain ⟨i, e1, hc⟩ := loopB (rnd := n109_0 M) t.fKids (fun i => ⟨vars, inp, (i : Int), t⟩) (fun _ k => formS vars inp k) (fun i hi => by
      have hw := w1L hi hl
      have hk := hM _ (get_memL hi)
      unfold n109_0
      dsimp only
      simp only [Int.toNat_natCast, GTerm.eta, hk, hw]
      cases formS vars inp t.fKids[i]! <;> simp [hi]) (by unfold n109_0; simp)
    refine ⟨i, e1, ?_⟩
    rcases hc with ⟨rfl, hc⟩ | ⟨hi, hc⟩
    · exact .inl ⟨rfl, all_of hc⟩
    · exact .inr ⟨hi, hc, not_all hi hc⟩
  unfold s109
  rw [m174_eq, formS_eq]
  unfold form0
  have hk0 : (kidsN t.fOp).1 = -1 ∨ 0 ≤ (kidsN t.fOp).1 := by unfold kidsN; grind
  have hk1 : t.fOp ≠ 25 → (kidsN t.fOp).1 = (kidsN t.fOp).2 := by unfold kidsN; grind
  have hk2 : t.fOp = 25 → kidsN t.fOp = (2, 33) := by unfold kidsN; grind
  have h33 : (kidsN t.fOp).2 ≤ 33 := by unfold kidsN; grind
  have hk3 : t.fOp = 25 → (kidsN t.fOp).1 = 2 ∧ (kidsN t.fOp).2 = 33 := fun h => by rw [hk2 h]; exact ⟨rfl, rfl⟩
  generalize (kidsN t.fOp).1 = a at *
  generalize (kidsN t.fOp).2 = b at *
  by_cases hn : 0 ≤ a ∧ a ≤ t.fKids.length ∧ (t.fKids.length : Int) ≤ b
  · obtain ⟨i, e, hc⟩ := key (by omega)
    rw [decide_eq_true hn, GTerm.eta, e]
    generalize t.fKids.all (formS vars inp) = A at hc
    simp only [Bool.cond_decide, Int.toNat_natCast]
    rcases hc with ⟨rfl, rfl⟩ | ⟨hi, h2, rfl⟩
    · cases inp <;> grind
    · have hk := hM _ (get_memL hi)
      simp only [GTerm.eta, hk, h2]
      by_cases h25 : t.fOp = 25
      · rw [if_pos h25, h25]
        cases inp <;> grind (splits := 30)
      · rw [if_neg h25]
        cases inp <;> grind (splits := 30)
  · rw [decide_eq_false hn]
    grind
theorem m109_eq (vars : List GVar) (inp : Bool) : ∀ (n : Nat) (t : GTerm), SizeOf.sizeOf t < n → m109 n vars t inp = some (formS vars inp t)
 | 0, _, h => by omega
 | n + 1, t, h => s109_eq (m109 n) vars inp t (fun k hk => m109_eq vars inp n k (by have := GTerm.kids_lt hk; omega))
theorem r109_eq (vars : List GVar) (inp : Bool) (t : GTerm) : r109 vars t inp = some (formS vars inp t) := lim_eq (SizeOf.sizeOf t + 1) fun n hn => m109_eq vars inp n t (by omega)
def InS (s : Span) : Prop := -1048576 ≤ s.fLow ∧ s.fLow ≤ s.fHigh ∧ s.fHigh ≤ 1048576
theorem m299_eq (a b : Span) : m299 a b = hull a b := rfl
theorem mul_bd {a b : Int} (h1 : -1048576 ≤ a) (h2 : a ≤ 1048576) (h3 : -1048576 ≤ b) (h4 : b ≤ 1048576) : -1099511627776 ≤ a * b ∧ a * b ≤ 1099511627776 := by
 have e1 : (1048576 - a) * (1048576 - b) ≥ 0 := Int.mul_nonneg (by omega) (by omega)
 have e2 : (1048576 + a) * (1048576 + b) ≥ 0 := Int.mul_nonneg (by omega) (by omega)
 have e3 : (1048576 - a) * (1048576 + b) ≥ 0 := Int.mul_nonneg (by omega) (by omega)
 have e4 : (1048576 + a) * (1048576 - b) ≥ 0 := Int.mul_nonneg (by omega) (by omega)
 grind
theorem m297_eq (a b : Span) (ha : InS a) (hb : InS b) : m297 a b = some (hull (hull (hull ⟨a.fLow * b.fLow, a.fLow * b.fLow⟩ ⟨a.fLow * b.fHigh, a.fLow * b.fHigh⟩) ⟨a.fHigh * b.fLow, a.fHigh * b.fLow⟩) ⟨a.fHigh * b.fHigh, a.fHigh * b.fHigh⟩) := by
 unfold InS at ha hb
 have w1 : m298 a.fLow b.fLow = a.fLow * b.fLow := by have := mul_bd (a := a.fLow) (b := b.fLow) (by omega) (by omega) (by omega) (by omega); exact wrap_id (by omega) (by omega)
 have w2 : m298 a.fLow b.fHigh = a.fLow * b.fHigh := by have := mul_bd (a := a.fLow) (b := b.fHigh) (by omega) (by omega) (by omega) (by omega); exact wrap_id (by omega) (by omega)
 have w3 : m298 a.fHigh b.fLow = a.fHigh * b.fLow := by have := mul_bd (a := a.fHigh) (b := b.fLow) (by omega) (by omega) (by omega) (by omega); exact wrap_id (by omega) (by omega)
 have w4 : m298 a.fHigh b.fHigh = a.fHigh * b.fHigh := by have := mul_bd (a := a.fHigh) (b := b.fHigh) (by omega) (by omega) (by omega) (by omega); exact wrap_id (by omega) (by omega)
 unfold m297
 rw [w1, w2, w3, w4]
 generalize a.fLow * b.fLow = p
 generalize a.fLow * b.fHigh = q
 generalize a.fHigh * b.fLow = r
 generalize a.fHigh * b.fHigh = s
 have e : a297_0 ⟨[q, r, s], (3 : Int), 0, ⟨0, 0⟩, ⟨p, p⟩⟩ = some ⟨[q, r, s], 3, 3, ⟨0, 0⟩, hull (hull (hull ⟨p, p⟩ ⟨q, q⟩) ⟨r, r⟩) ⟨s, s⟩⟩ := by
  have k1 : n297_0 ⟨[q, r, s], (3 : Int), 0, ⟨0, 0⟩, ⟨p, p⟩⟩ = some (some ⟨[q, r, s], (3 : Int), 1, ⟨0, 0⟩, hull ⟨p, p⟩ ⟨q, q⟩⟩) := by unfold n297_0; simp [m299_eq, wrap_id]
  have k2 : n297_0 ⟨[q, r, s], (3 : Int), 1, ⟨0, 0⟩, hull ⟨p, p⟩ ⟨q, q⟩⟩ = some (some ⟨[q, r, s], (3 : Int), 2, ⟨0, 0⟩, hull (hull ⟨p, p⟩ ⟨q, q⟩) ⟨r, r⟩⟩) := by unfold n297_0; simp [m299_eq, wrap_id]
  have k3 : n297_0 ⟨[q, r, s], (3 : Int), 2, ⟨0, 0⟩, hull (hull ⟨p, p⟩ ⟨q, q⟩) ⟨r, r⟩⟩ = some (some ⟨[q, r, s], (3 : Int), 3, ⟨0, 0⟩, hull (hull (hull ⟨p, p⟩ ⟨q, q⟩) ⟨r, r⟩) ⟨s, s⟩⟩) := by unfold n297_0; simp [m299_eq, wrap_id]
  unfold a297_0
  rw [advG_step k1, advG_step k2, advG_step k3]
  exact advG_stop fun r => by unfold n297_0; simp
 rw [show (([q, r, s] : List Int).length : Int) = 3 from rfl, e]
 simp
theorem hull_in {a b : Span} (ha : InS a) (hb : InS b) : InS (hull a b) := by
 unfold InS hull at *
 grind
theorem foldl_hull_in : ∀ (l : List Span) (a : Span), InS a → (∀ x ∈ l, InS x) → InS (l.foldl hull a)
 | [], a, ha, _ => ha
 | x :: l, a, ha, h => foldl_hull_in l (hull a x) (hull_in ha (h x (List.mem_cons_self ..))) fun y hy => h y (List.mem_cons_of_mem _ hy)
theorem a279_0_eq (l : List Span) (hl : l.length ≤ 1000000) (z a : Span) : a279_0 ⟨l, (l.length : Int), 0, z, a⟩ = some ⟨l, (l.length : Int), (l.length : Int), z, l.foldl hull a⟩ := by
  obtain ⟨v, e1, hv⟩ := loopI (rnd := n279_0) l.length (fun i (b : Span) => ⟨l, (l.length : Int), (i : Int), z, b⟩) (fun i b => b = (l.take i).foldl hull a) (fun i b hi hb => by
    have hw := w1L hi hl
    refine ⟨hull b l[i]!, ?_, ?_⟩
    · unfold n279_0
      simp only [m299_eq]
      grind
    · rw [take_succL hi, List.foldl_append, hb]; rfl) (fun b _ => by unfold n279_0; simp) (b := a) rfl
  rw [List.take_length] at hv
  rw [← hv]
  exact e1
def KidsOk (vars : List GVar) (t : GTerm) (k : List Span) : Prop := (0 ≤ (kidsN t.fOp).1 ∧ (kidsN t.fOp).1 ≤ k.length ∧ (k.length : Int) ≤ (kidsN t.fOp).2) ∧ (t.fOp = 24 → 0 ≤ t.fN ∧ t.fN < vars.length) ∧ ∀ s ∈ k, InS s
theorem m279_eq (vars : List GVar) (t : GTerm) (k : List Span) (h : KidsOk vars t k) : m279 vars t k = some (ruleS vars t k) := by
  obtain ⟨hk, h24, hI⟩ := h
  have h0 : 1 ≤ (kidsN t.fOp).1 → InS k[0]! := fun h => hI _ (get_memL (by omega))
  have h1 : 2 ≤ (kidsN t.fOp).1 → InS k[1]! := fun h => hI _ (get_memL (by omega))
  have h33 : (kidsN t.fOp).2 ≤ 33 := by unfold kidsN; grind
  have hd : (k.drop 2).length ≤ 1000000 := by rw [List.length_drop]; omega
  have W : ∀ n : Int, -8796093022208 ≤ n → n ≤ 8796093022208 → i64.wrap n = n := fun n a b => wrap_id (by omega) (by omega)
  unfold m279 ruleS
  rw [a279_0_eq _ hd]
  have cs : t.fOp = 0 ∨ t.fOp = 24 ∨ t.fOp = 6 ∨ t.fOp = 8 ∨ t.fOp = 9 ∨ t.fOp = 10 ∨ t.fOp = 11 ∨ t.fOp = 12 ∨ t.fOp = 21 ∨ t.fOp = 22 ∨ t.fOp = 23 ∨ t.fOp = 25 ∨ (t.fOp ≠ 0 ∧ t.fOp ≠ 24 ∧ t.fOp ≠ 6 ∧ t.fOp ≠ 8 ∧ t.fOp ≠ 9 ∧ t.fOp ≠ 10 ∧ t.fOp ≠ 11 ∧ t.fOp ≠ 12 ∧ t.fOp ≠ 21 ∧ t.fOp ≠ 22 ∧ t.fOp ≠ 23 ∧ t.fOp ≠ 25) := by omega
  rcases cs with h | h | h | h | h | h | h | h | h | h | h | h | h
  · simp [h]
  · simp [h, h24 h]
  · have hl : 1 ≤ (kidsN t.fOp).1 := by rw [h]; decide
    obtain ⟨a1, a2, a3⟩ := h0 hl
    have w1 : i64.wrap ((0 : Int) - k[0]!.fHigh) = -k[0]!.fHigh := by rw [W _ (by omega) (by omega)]; omega
    have w2 : i64.wrap ((0 : Int) - k[0]!.fLow) = -k[0]!.fLow := by rw [W _ (by omega) (by omega)]; omega
    have i0 : (0 : Int) < (k.length : Int) := by omega
    simp only [Z0, h, Bool.cond_decide, Int.reduceEq, reduceIte, i0, w1, w2, Int.le_refl, and_self]
  · have hl : 2 ≤ (kidsN t.fOp).1 := by rw [h]; decide
    obtain ⟨a1, a2, a3⟩ := h0 (by omega)
    obtain ⟨b1, b2, b3⟩ := h1 hl
    have w1 := W (k[0]!.fLow + k[1]!.fLow) (by omega) (by omega)
    have w2 := W (k[0]!.fHigh + k[1]!.fHigh) (by omega) (by omega)
    have i0 : (0 : Int) < (k.length : Int) := by omega
    have i1 : (1 : Int) < (k.length : Int) := by omega
    simp only [Z0, h, Bool.cond_decide, Int.reduceEq, Int.reduceLE, reduceIte, i0, i1, w1, w2, Int.le_refl, and_self, if_true]
  · have hl : 2 ≤ (kidsN t.fOp).1 := by rw [h]; decide
    obtain ⟨a1, a2, a3⟩ := h0 (by omega)
    obtain ⟨b1, b2, b3⟩ := h1 hl
    have w1 := W (k[0]!.fLow - k[1]!.fHigh) (by omega) (by omega)
    have w2 := W (k[0]!.fHigh - k[1]!.fLow) (by omega) (by omega)
    have i0 : (0 : Int) < (k.length : Int) := by omega
    have i1 : (1 : Int) < (k.length : Int) := by omega
    simp only [Z0, h, Bool.cond_decide, Int.reduceEq, Int.reduceLE, reduceIte, i0, i1, w1, w2, Int.le_refl, and_self, if_true]
  · have hl : 2 ≤ (kidsN t.fOp).1 := by rw [h]; decide
    have e18 := m297_eq _ _ (h0 (by omega)) (h1 hl)
    have i0 : (0 : Int) < (k.length : Int) := by omega
    have i1 : (1 : Int) < (k.length : Int) := by omega
    simp only [Z0, h, Bool.cond_decide, Int.reduceEq, Int.reduceLE, reduceIte, i0, i1, e18, Int.le_refl, and_self, if_true]
  · have hl : 2 ≤ (kidsN t.fOp).1 := by rw [h]; decide
    obtain ⟨a1, a2, a3⟩ := h0 (by omega)
    obtain ⟨b1, b2, b3⟩ := h1 hl
    have w1 : i64.wrap ((0 : Int) - k[0]!.fLow) = -k[0]!.fLow := by rw [W _ (by omega) (by omega)]; omega
    have w2 : i64.wrap ((0 : Int) - if k[0]!.fHigh < -k[0]!.fLow then -k[0]!.fLow else k[0]!.fHigh) = -(if k[0]!.fHigh < -k[0]!.fLow then -k[0]!.fLow else k[0]!.fHigh) := by split <;> (rw [W _ (by omega) (by omega)]; omega)
    have i0 : (0 : Int) < (k.length : Int) := by omega
    have i1 : (1 : Int) < (k.length : Int) := by omega
    simp only [Z0, h, Bool.cond_decide, Int.reduceEq, Int.reduceLE, reduceIte, i0, i1, w1, w2, Int.le_refl, and_self, if_true]
    by_cases c1 : (0 : Int) ≤ k[0]!.fLow <;> by_cases c2 : (0 : Int) ≤ k[1]!.fLow <;> simp only [c1, c2, if_true, if_false, decide_true, decide_false, cond_true, cond_false, and_self, and_true, and_false]
  · have hl : 2 ≤ (kidsN t.fOp).1 := by rw [h]; decide
    obtain ⟨b1, b2, b3⟩ := h1 hl
    have w1 := W (k[1]!.fLow + 1) (by omega) (by omega)
    have w2 := W (k[1]!.fHigh - 1) (by omega) (by omega)
    have i1 : (1 : Int) < (k.length : Int) := by omega
    simp only [Z0, h, Bool.cond_decide, Int.reduceEq, Int.reduceLE, reduceIte, i1, w1, w2, Int.le_refl, and_self, if_true]
    by_cases c1 : k[1]!.fLow < 0 <;> by_cases c2 : (0 : Int) < k[1]!.fHigh <;> simp only [c1, c2, if_true, if_false]
    · rw [if_neg (by omega), if_neg (by omega)]
    · rw [if_neg (by omega)]
    · rw [if_neg (by omega)]
  · have hl : 2 ≤ (kidsN t.fOp).1 := by rw [h]; decide
    have i0 : (0 : Int) < (k.length : Int) := by omega
    have i1 : (1 : Int) < (k.length : Int) := by omega
    simp only [Z0, h, Bool.cond_decide, Int.reduceEq, Int.reduceLE, reduceIte, i0, i1, Int.le_refl, and_self, if_true]
  · have hl : 2 ≤ (kidsN t.fOp).1 := by rw [h]; decide
    have i0 : (0 : Int) < (k.length : Int) := by omega
    have i1 : (1 : Int) < (k.length : Int) := by omega
    simp only [Z0, h, Bool.cond_decide, Int.reduceEq, Int.reduceLE, reduceIte, i0, i1, Int.le_refl, and_self, if_true]
  · have hl : 2 ≤ (kidsN t.fOp).1 := by rw [h]; decide
    have i1 : (1 : Int) < (k.length : Int) := by omega
    have i2 : (2 : Int) ≤ (k.length : Int) := by omega
    simp only [Z0, h, Bool.cond_decide, Int.reduceEq, Int.reduceLE, reduceIte, i1, i2, Int.le_refl, and_self, if_true, Int.lt_irrefl, if_false, true_or]
  · have hl : 2 ≤ (kidsN t.fOp).1 := by rw [h]; decide
    have i1 : (1 : Int) < (k.length : Int) := by omega
    have i2 : (2 : Int) ≤ (k.length : Int) := by omega
    simp only [Z0, h, Bool.cond_decide, Int.reduceEq, Int.reduceLE, reduceIte, i1, i2, Int.le_refl, and_self, if_true, Int.lt_irrefl, if_false, or_true]
  · obtain ⟨c1, c2, c3, c4, c5, c6, c7, c8, c9, c18, c11, c12⟩ := h
    simp only [c1, c2, c3, c4, c5, c6, c7, c8, c9, c18, c11, c12, Bool.cond_decide, if_false, or_self]
theorem rule_ord (vars : List GVar) (hv : VarsOk vars) (t : GTerm) (k : List Span) (h : KidsOk vars t k) : (ruleS vars t k).fLow ≤ (ruleS vars t k).fHigh := by
  obtain ⟨hk, h24, hI⟩ := h
  have h0 : 1 ≤ (kidsN t.fOp).1 → InS k[0]! := fun h => hI _ (get_memL (by omega))
  have h1 : 2 ≤ (kidsN t.fOp).1 → InS k[1]! := fun h => hI _ (get_memL (by omega))
  unfold ruleS
  have cs : t.fOp = 0 ∨ t.fOp = 24 ∨ t.fOp = 6 ∨ t.fOp = 8 ∨ t.fOp = 9 ∨ t.fOp = 10 ∨ t.fOp = 11 ∨ t.fOp = 12 ∨ t.fOp = 21 ∨ t.fOp = 22 ∨ t.fOp = 23 ∨ t.fOp = 25 ∨ (t.fOp ≠ 0 ∧ t.fOp ≠ 24 ∧ t.fOp ≠ 6 ∧ t.fOp ≠ 8 ∧ t.fOp ≠ 9 ∧ t.fOp ≠ 10 ∧ t.fOp ≠ 11 ∧ t.fOp ≠ 12 ∧ t.fOp ≠ 21 ∧ t.fOp ≠ 22 ∧ t.fOp ≠ 23 ∧ t.fOp ≠ 25) := by omega
  rcases cs with h | h | h | h | h | h | h | h | h | h | h | h | h
  · simp [h]
  · have hm : vars[t.fN.toNat]! ∈ vars := get_memL (by have := h24 h; omega)
    have := hv _ hm
    simp only [h, Int.reduceEq, reduceIte]
    omega
  · obtain ⟨a1, a2, a3⟩ := h0 (by rw [h]; decide)
    simp only [h, Int.reduceEq, reduceIte]
    omega
  · obtain ⟨a1, a2, a3⟩ := h0 (by rw [h]; decide)
    obtain ⟨b1, b2, b3⟩ := h1 (by rw [h]; decide)
    simp only [h, Int.reduceEq, reduceIte]
    omega
  · obtain ⟨a1, a2, a3⟩ := h0 (by rw [h]; decide)
    obtain ⟨b1, b2, b3⟩ := h1 (by rw [h]; decide)
    simp only [h, Int.reduceEq, reduceIte]
    omega
  · simp only [h, Int.reduceEq, reduceIte, hull]
    omega
  · obtain ⟨a1, a2, a3⟩ := h0 (by rw [h]; decide)
    grind
  · simp only [h]
    grind
  · obtain ⟨a1, a2, a3⟩ := h0 (by rw [h]; decide)
    obtain ⟨b1, b2, b3⟩ := h1 (by rw [h]; decide)
    simp only [h, Int.reduceEq]
    grind
  · obtain ⟨a1, a2, a3⟩ := h0 (by rw [h]; decide)
    obtain ⟨b1, b2, b3⟩ := h1 (by rw [h]; decide)
    simp only [h, Int.reduceEq, reduceIte]
    grind
  · have := foldl_hull_in (k.drop 2) k[1]! (h1 (by rw [h]; decide)) fun x hx => hI x (List.mem_of_mem_drop hx)
    simp only [h, Int.reduceEq, reduceIte, true_or, if_true]
    exact this.2.1
  · have := foldl_hull_in (k.drop 2) k[1]! (h1 (by rw [h]; decide)) fun x hx => hI x (List.mem_of_mem_drop hx)
    simp only [h, Int.reduceEq, reduceIte, or_true, if_true]
    exact this.2.1
  · obtain ⟨c1, c2, c3, c4, c5, c6, c7, c8, c9, c18, c11, c12⟩ := h
    simp only [c1, c2, c3, c4, c5, c6, c7, c8, c9, c18, c11, c12, if_false, or_self]
    decide
theorem allS_some : ∀ {l : List (Option Span)} {r : List Span}, allS l = some r → l = r.map some
 | [], r, h => by unfold allS at h; cases h; rfl
 | none :: l, r, h => by unfold allS at h; cases h
 | some s :: l, r, h => by
  unfold allS at h
  cases hl : allS l with
  | none => rw [hl] at h; cases h
  | some q => rw [hl] at h; cases h; rw [allS_some hl]; rfl
theorem allS_map (l : List Span) : allS (l.map some) = some l := by
 induction l with
 | nil => rfl
 | cons s l ih => rw [List.map_cons, allS, ih]
theorem allS_none : ∀ {l : List (Option Span)}, none ∈ l → allS l = none
 | none :: l, h => rfl
 | some s :: l, h => by
  unfold allS
  rw [allS_none (by simpa using h)]
theorem kidsOk_of {vars : List GVar} {inp : Bool} {t : GTerm} {k : List Span} (hf : form0 vars inp t = true) (hl : k.length = t.fKids.length) (hI : ∀ s ∈ k, InS s) : KidsOk vars t k := by
  unfold form0 at hf
  refine ⟨?_, ?_, hI⟩
  · simp_all
  · intro h
    simp_all
theorem rngS_in (vars : List GVar) (hv : VarsOk vars) (inp : Bool) (t : GTerm) (s : Span) (hf : formS vars inp t = true) (h : rngS vars t = some s) : InS s := by
  have key : ∀ (n : Nat) (t : GTerm) (s : Span), SizeOf.sizeOf t < n → formS vars inp t = true → rngS vars t = some s → InS s := by
    intro n
    induction n with
    | zero => intro t s h; omega
    | succ n ih =>
      intro t s hz hf h
      rw [formS_eq, Bool.and_eq_true, List.all_eq_true] at hf
      rw [rngS_eq] at h
      cases ha : allS (t.fKids.map (rngS vars)) with
      | none => rw [ha] at h; cases h
      | some k =>
        rw [ha] at h
        dsimp only at h
        have hm := allS_some ha
        have hl : k.length = t.fKids.length := by have := congrArg List.length hm; simpa using this.symm
        have hI : ∀ s ∈ k, InS s := fun x hx => by
          have : some x ∈ t.fKids.map (rngS vars) := by rw [hm]; exact List.mem_map_of_mem hx
          obtain ⟨c, hc, e⟩ := List.mem_map.1 this
          exact ih c x (by have := GTerm.kids_lt hc; omega) (hf.2 c hc) e
        have ho := rule_ord vars hv t k (kidsOk_of hf.1 hl hI)
        split at h
        · rename_i hlim
          unfold limS at hlim
          unfold InS
          grind
        · cases h
  exact key _ t s (Nat.lt_succ_self _) hf h
def rngX (vars : List GVar) (t : GTerm) : Span × Bool := match allS (t.fKids.map (rngS vars)) with
 | none => (⟨0, 0⟩, false)
 | some l => (ruleS vars t l, limS (ruleS vars t l))
theorem rngX_eq (vars : List GVar) (t : GTerm) : rngS vars t = if (rngX vars t).2 = true then some (rngX vars t).1 else none := by
 rw [rngS_eq, rngX]
 grind
theorem kids_all {vars : List GVar} (hv : VarsOk vars) {inp : Bool} {t : GTerm} {k : List Span} (hf : formS vars inp t = true) (ha : allS (t.fKids.map (rngS vars)) = some k) : KidsOk vars t k := by
 rw [formS_eq, Bool.and_eq_true, List.all_eq_true] at hf
 have hm := allS_some ha
 refine kidsOk_of hf.1 (by have := congrArg List.length hm; simpa using this.symm) fun x hx => ?_
 have : some x ∈ t.fKids.map (rngS vars) := by rw [hm]; exact List.mem_map_of_mem hx
 obtain ⟨c, hc, e⟩ := List.mem_map.1 this
 exact rngS_in vars hv inp c x (hf.2 c hc) e
theorem form_len {vars : List GVar} {inp : Bool} {t : GTerm} (hf : formS vars inp t = true) : t.fKids.length ≤ 33 := by
 rw [formS_eq, Bool.and_eq_true] at hf
 have := hf.1
 unfold form0 at this
 have h33 : (kidsN t.fOp).2 ≤ 33 := by unfold kidsN; grind
 simp only [Bool.and_eq_true, decide_eq_true_eq] at this
 omega
theorem form_kid {vars : List GVar} {inp : Bool} {t k : GTerm} (hf : formS vars inp t = true) (hk : k ∈ t.fKids) : formS vars inp k = true := by
 rw [formS_eq, Bool.and_eq_true, List.all_eq_true] at hf
 simp_all
theorem s229_eq (M : List GVar → GTerm → Option E229) (vars : List GVar) (hv : VarsOk vars) (inp : Bool) (t : GTerm) (hf : formS vars inp t = true) (hM : ∀ k ∈ t.fKids, M vars k = some (rngX vars k)) : s229 M vars t = some (rngX vars t) := by
  have h33 := form_len hf
  obtain ⟨i, b, e1, hI, hc⟩ := loopJ (rnd := n229_0 M) t.fKids.length (fun i (b : List Span) => ⟨vars, b, t.fKids, (t.fKids.length : Int), (i : Int), t, ⟨0, 0⟩⟩) (fun i b => (t.fKids.take i).map (rngS vars) = b.map some) (fun i _ => (rngX vars t.fKids[i]!).2 = false) (fun i b hi hb => by
    have hw := w1L hi (by omega)
    have hk := hM _ (get_memL hi)
    have hlen : b.length = i := by have := congrArg List.length hb; simp at this; omega
    cases hx : (rngX vars t.fKids[i]!).2 with
    | true =>
      refine .inl ⟨b ++ [(rngX vars t.fKids[i]!).1], ?_, ?_⟩
      · have hl2 : (b ++ [(rngX vars t.fKids[i]!).1]).length ≤ 1073741824 := by simp; omega
        unfold n229_0
        simp only [Int.toNat_natCast, GTerm.eta, hk, hx, hl2, hw]
        simp [hi]
      · rw [take_succL hi, List.map_append, hb, List.map_append]
        rw [List.map_cons, List.map_cons, rngX_eq, if_pos hx]
        rfl
    | false =>
      unfold n229_0
      simp only [Int.toNat_natCast, GTerm.eta, hk, hx]
      simp [hi]) (fun b _ => by unfold n229_0; simp) (b := []) rfl
  have e1' : a229_0 M ⟨vars, [], t.fKids, (t.fKids.length : Int), 0, t, ⟨0, 0⟩⟩ = some ⟨vars, b, t.fKids, (t.fKids.length : Int), (i : Int), t, ⟨0, 0⟩⟩ := e1
  unfold s229
  rw [GTerm.eta, e1']
  dsimp only
  rcases hc with rfl | ⟨hi, hx⟩
  · rw [List.take_length] at hI
    have ha : allS (t.fKids.map (rngS vars)) = some b := by rw [hI]; exact allS_map b
    rw [decide_eq_false (by omega), cond_false, GTerm.eta, m279_eq vars t b (kids_all hv hf ha)]
    unfold rngX
    unfold limS
    grind
  · have hk := hM _ (get_memL hi)
    have ha : allS (t.fKids.map (rngS vars)) = none := allS_none (List.mem_map.2 ⟨t.fKids[i]!, get_memL hi, by rw [rngX_eq, hx]; simp⟩)
    rw [decide_eq_true (by omega), cond_true, if_pos ⟨by omega, by omega⟩]
    simp only [Int.toNat_natCast, GTerm.eta, hk, hx, cond_true, cond_false]
    unfold rngX
    rw [ha]
theorem m229_eq (vars : List GVar) (hv : VarsOk vars) (inp : Bool) : ∀ (n : Nat) (t : GTerm), SizeOf.sizeOf t < n → formS vars inp t = true → m229 n vars t = some (rngX vars t)
 | 0, _, h, _ => by omega
 | n + 1, t, h, hf => s229_eq (m229 n) vars hv inp t hf (fun k hk => m229_eq vars hv inp n k (by have := GTerm.kids_lt hk; omega) (form_kid hf hk))
theorem r229_eq (vars : List GVar) (hv : VarsOk vars) (inp : Bool) (t : GTerm) (hf : formS vars inp t = true) : r229 vars t = some (rngX vars t) := lim_eq (SizeOf.sizeOf t + 1) fun n hn => m229_eq vars hv inp n t (by omega) hf
theorem m169_eq (vars : List GVar) (hv : VarsOk vars) (inp : Bool) (t : GTerm) : m169 vars t inp = some (termC vars inp t) := by
 unfold m169 termC
 rw [GTerm.eta, r228_eq]
 cases hf : formS vars inp t with
 | false => rfl
 | true =>
  rw [r229_eq vars hv inp t hf, rngX_eq]
  dsimp only
  cases (rngX vars t).2 <;> rfl
def rule2 (vars : List GVar) (t : GTerm) (k : List Span) : Span := if t.fOp = 0 ∧ (t.fN < -1048576 ∨ 1048576 < t.fN) then ⟨-1048577, 1048577⟩ else ruleS vars t k
theorem rule2_lim (vars : List GVar) (t : GTerm) (k : List Span) : limS (rule2 vars t k) = limS (ruleS vars t k) ∧ (limS (ruleS vars t k) = true → rule2 vars t k = ruleS vars t k) := by
  unfold rule2
  by_cases h : t.fOp = 0 ∧ (t.fN < -1048576 ∨ 1048576 < t.fN)
  · have e : limS (ruleS vars t k) = false := by
      unfold limS ruleS
      rw [if_pos h.1]
      simp
      omega
    rw [if_pos h, e]
    exact ⟨by decide, fun h => by cases h⟩
  · rw [if_neg h]
    simp
theorem m113_eq (a b : Int) : m113 a b = if a < b then a else b := by
 unfold m113
 simp
theorem m112_eq (a b : Int) : m112 a b = if b < a then a else b := by
 unfold m112
 simp
theorem getLow {k : List Span} {i : Nat} (h : i < k.length) : (k.map (·.fLow))[i]! = k[i]!.fLow := by
  rw [getElem!_pos _ i (by simpa using h), getElem!_pos k i h, List.getElem_map]
theorem getHigh {k : List Span} {i : Nat} (h : i < k.length) : (k.map (·.fHigh))[i]! = k[i]!.fHigh := by
  rw [getElem!_pos _ i (by simpa using h), getElem!_pos k i h, List.getElem_map]
theorem a175_0_eq (k : List Span) (hl : k.length ≤ 1000000) (h2 : 2 ≤ k.length) (a : Span) : a175_0 ⟨k.map (·.fLow), k.map (·.fHigh), a.fLow, a.fHigh, 2⟩ = some ⟨k.map (·.fLow), k.map (·.fHigh), ((k.drop 2).foldl hull a).fLow, ((k.drop 2).foldl hull a).fHigh, (k.length : Int)⟩ := by
  have hlen : (k.drop 2).length = k.length - 2 := List.length_drop ..
  have hget : ∀ i, i < k.length - 2 → (k.drop 2)[i]! = k[i + 2]! := fun i hi => by
    grind
  obtain ⟨v, e1, hv⟩ := loopI (rnd := n175_0) (k.length - 2) (fun i (b : Span) => ⟨k.map (·.fLow), k.map (·.fHigh), b.fLow, b.fHigh, ((i + 2 : Nat) : Int)⟩) (fun i b => b = ((k.drop 2).take i).foldl hull a) (fun i b hi hb => by
    have hw := w1L (show i + 2 < k.length by omega) hl
    refine ⟨hull b k[i + 2]!, ?_, ?_⟩
    · unfold n175_0
      simp only [Int.toNat_natCast, m113_eq, m112_eq]
      unfold hull
      congr 3 <;> grind
    · rw [take_succL (by omega), List.foldl_append, hb, hget i hi]; rfl) (fun b _ => by
      unfold n175_0
      simp only [List.length_map, Bool.cond_decide]
      rw [if_neg (by omega)]) (b := a) rfl
  rw [← hlen, List.take_length] at hv
  rw [← hv]
  rw [show k.length - 2 + 2 = k.length by omega] at e1
  exact e1
theorem m175_eq (vars : List GVar) (t : GTerm) (k : List Span) (h : KidsOk vars t k) : m175 vars t (k.map (·.fLow)) (k.map (·.fHigh)) = some ((rule2 vars t k).fLow, (rule2 vars t k).fHigh) := by
  obtain ⟨hk, h24, hI⟩ := h
  have h0 : 1 ≤ (kidsN t.fOp).1 → InS k[0]! := fun h => hI _ (get_memL (by omega))
  have h1 : 2 ≤ (kidsN t.fOp).1 → InS k[1]! := fun h => hI _ (get_memL (by omega))
  have h33 : (kidsN t.fOp).2 ≤ 33 := by unfold kidsN; grind
  have W : ∀ n : Int, -8796093022208 ≤ n → n ≤ 8796093022208 → i64.wrap n = n := fun n a b => wrap_id (by omega) (by omega)
  unfold m175 rule2 ruleS
  have cs : t.fOp = 0 ∨ t.fOp = 24 ∨ t.fOp = 6 ∨ t.fOp = 8 ∨ t.fOp = 9 ∨ t.fOp = 10 ∨ t.fOp = 11 ∨ t.fOp = 12 ∨ t.fOp = 21 ∨ t.fOp = 22 ∨ t.fOp = 23 ∨ t.fOp = 25 ∨ (t.fOp ≠ 0 ∧ t.fOp ≠ 24 ∧ t.fOp ≠ 6 ∧ t.fOp ≠ 8 ∧ t.fOp ≠ 9 ∧ t.fOp ≠ 10 ∧ t.fOp ≠ 11 ∧ t.fOp ≠ 12 ∧ t.fOp ≠ 21 ∧ t.fOp ≠ 22 ∧ t.fOp ≠ 23 ∧ t.fOp ≠ 25) := by omega
  rcases cs with h | h | h | h | h | h | h | h | h | h | h | h | h
  · simp only [Z0]
    grind
  · simp [h, h24 h]
  · have hl : 1 ≤ (kidsN t.fOp).1 := by rw [h]; decide
    obtain ⟨a1, a2, a3⟩ := h0 hl
    have w1 : i64.wrap ((0 : Int) - k[0]!.fHigh) = -k[0]!.fHigh := by rw [W _ (by omega) (by omega)]; omega
    have w2 : i64.wrap ((0 : Int) - k[0]!.fLow) = -k[0]!.fLow := by rw [W _ (by omega) (by omega)]; omega
    have i0 : (0 : Int) < (k.length : Int) := by omega
    simp only [Z0, h, Bool.cond_decide, Int.reduceEq, reduceIte, List.length_map, i0, getLow (show 0 < k.length by omega), getHigh (show 0 < k.length by omega), w1, w2, Int.le_refl, and_self, if_true, false_and, if_false]
  · have hl : 2 ≤ (kidsN t.fOp).1 := by rw [h]; decide
    obtain ⟨a1, a2, a3⟩ := h0 (by omega)
    obtain ⟨b1, b2, b3⟩ := h1 hl
    have w1 := W (k[0]!.fLow + k[1]!.fLow) (by omega) (by omega)
    have w2 := W (k[0]!.fHigh + k[1]!.fHigh) (by omega) (by omega)
    have i0 : (0 : Int) < (k.length : Int) := by omega
    have i1 : (1 : Int) < (k.length : Int) := by omega
    simp only [Z0, h, Bool.cond_decide, Int.reduceEq, Int.reduceLE, reduceIte, List.length_map, getLow (show 0 < k.length by omega), getHigh (show 0 < k.length by omega), getLow (show 1 < k.length by omega), getHigh (show 1 < k.length by omega), i0, i1, w1, w2, Int.le_refl, and_self, if_true, false_and, if_false]
  · have hl : 2 ≤ (kidsN t.fOp).1 := by rw [h]; decide
    obtain ⟨a1, a2, a3⟩ := h0 (by omega)
    obtain ⟨b1, b2, b3⟩ := h1 hl
    have w1 := W (k[0]!.fLow - k[1]!.fHigh) (by omega) (by omega)
    have w2 := W (k[0]!.fHigh - k[1]!.fLow) (by omega) (by omega)
    have i0 : (0 : Int) < (k.length : Int) := by omega
    have i1 : (1 : Int) < (k.length : Int) := by omega
    simp only [Z0, h, Bool.cond_decide, Int.reduceEq, Int.reduceLE, reduceIte, List.length_map, getLow (show 0 < k.length by omega), getHigh (show 0 < k.length by omega), getLow (show 1 < k.length by omega), getHigh (show 1 < k.length by omega), i0, i1, w1, w2, Int.le_refl, and_self, if_true, false_and, if_false]
  · have hl : 2 ≤ (kidsN t.fOp).1 := by rw [h]; decide
    obtain ⟨a1, a2, a3⟩ := h0 (by omega)
    obtain ⟨b1, b2, b3⟩ := h1 hl
    have m1 := mul_bd (a := k[0]!.fLow) (b := k[1]!.fLow) (by omega) (by omega) (by omega) (by omega)
    have m2 := mul_bd (a := k[0]!.fLow) (b := k[1]!.fHigh) (by omega) (by omega) (by omega) (by omega)
    have m3 := mul_bd (a := k[0]!.fHigh) (b := k[1]!.fLow) (by omega) (by omega) (by omega) (by omega)
    have m4 := mul_bd (a := k[0]!.fHigh) (b := k[1]!.fHigh) (by omega) (by omega) (by omega) (by omega)
    have w1 := W _ (show -8796093022208 ≤ k[0]!.fLow * k[1]!.fLow by omega) (by omega)
    have w2 := W _ (show -8796093022208 ≤ k[0]!.fLow * k[1]!.fHigh by omega) (by omega)
    have w3 := W _ (show -8796093022208 ≤ k[0]!.fHigh * k[1]!.fLow by omega) (by omega)
    have w4 := W _ (show -8796093022208 ≤ k[0]!.fHigh * k[1]!.fHigh by omega) (by omega)
    have i0 : (0 : Int) < (k.length : Int) := by omega
    have i1 : (1 : Int) < (k.length : Int) := by omega
    simp only [Z0, h, Bool.cond_decide, Int.reduceEq, Int.reduceLE, reduceIte, List.length_map, getLow (show 0 < k.length by omega), getHigh (show 0 < k.length by omega), getLow (show 1 < k.length by omega), getHigh (show 1 < k.length by omega), i0, i1, w1, w2, w3, w4, Int.le_refl, and_self, if_true, false_and, if_false, m113_eq, m112_eq, hull]
    generalize k[0]!.fLow * k[1]!.fLow = p
    generalize k[0]!.fLow * k[1]!.fHigh = q
    generalize k[0]!.fHigh * k[1]!.fLow = r
    generalize k[0]!.fHigh * k[1]!.fHigh = s
    congr 2 <;> grind
  · have hl : 2 ≤ (kidsN t.fOp).1 := by rw [h]; decide
    obtain ⟨a1, a2, a3⟩ := h0 (by omega)
    obtain ⟨b1, b2, b3⟩ := h1 hl
    have z0 : Int.toNat 0 = 0 := rfl
    have z1 : Int.toNat 1 = 1 := rfl
    have e235 : ∀ x : Int, -1048576 ≤ x → x ≤ 1048576 → m235 x = if x < 0 then -x else x := fun x q1 q2 => by
      unfold m235
      rw [W _ (by omega) (by omega)]
      simp only [Bool.cond_decide]
      grind
    have e112 : m112 (m235 k[0]!.fLow) (m235 k[0]!.fHigh) = if k[0]!.fHigh < -k[0]!.fLow then -k[0]!.fLow else k[0]!.fHigh := by
      rw [e235 _ (by omega) (by omega), e235 _ (by omega) (by omega), m112_eq]
      grind
    have w2 : i64.wrap ((0 : Int) - if k[0]!.fHigh < -k[0]!.fLow then -k[0]!.fLow else k[0]!.fHigh) = -(if k[0]!.fHigh < -k[0]!.fLow then -k[0]!.fLow else k[0]!.fHigh) := by split <;> (rw [W _ (by omega) (by omega)]; omega)
    have i0 : (0 : Int) < (k.length : Int) := by omega
    have i1 : (1 : Int) < (k.length : Int) := by omega
    simp only [Z0, h, Bool.cond_decide, Int.reduceEq, Int.reduceLE, reduceIte, List.length_map, z0, z1, getLow (show 0 < k.length by omega), getHigh (show 0 < k.length by omega), getLow (show 1 < k.length by omega), getHigh (show 1 < k.length by omega), i0, i1, e112, w2, Int.le_refl, and_self, if_true, false_and, if_false]
    by_cases c1 : (0 : Int) ≤ k[0]!.fLow <;> by_cases c2 : (0 : Int) ≤ k[1]!.fLow <;> simp only [c1, c2, if_true, if_false, decide_true, decide_false, cond_true, cond_false, and_self, and_true, and_false]
  · have hl : 2 ≤ (kidsN t.fOp).1 := by rw [h]; decide
    obtain ⟨b1, b2, b3⟩ := h1 hl
    have w1 := W (k[1]!.fLow + 1) (by omega) (by omega)
    have w2 := W (k[1]!.fHigh - 1) (by omega) (by omega)
    have i1 : (1 : Int) < (k.length : Int) := by omega
    simp only [Z0, h, Bool.cond_decide, Int.reduceEq, Int.reduceLE, reduceIte, List.length_map, getLow (show 1 < k.length by omega), getHigh (show 1 < k.length by omega), i1, Int.le_refl, and_self, if_true, false_and, if_false, m236, w1, w2, m113_eq, m112_eq]
    congr 1
    by_cases c1 : k[1]!.fLow < 0 <;> by_cases c2 : (0 : Int) < k[1]!.fHigh <;> simp only [c1, c2, if_true, if_false, Prod.mk.injEq, and_true, true_and] <;> grind
  · have hl : 2 ≤ (kidsN t.fOp).1 := by rw [h]; decide
    have i0 : (0 : Int) < (k.length : Int) := by omega
    have i1 : (1 : Int) < (k.length : Int) := by omega
    simp only [Z0, h, Bool.cond_decide, Int.reduceEq, Int.reduceLE, reduceIte, List.length_map, getLow (show 0 < k.length by omega), getHigh (show 0 < k.length by omega), getLow (show 1 < k.length by omega), getHigh (show 1 < k.length by omega), i0, i1, Int.le_refl, and_self, if_true, false_and, if_false, m113_eq, m112_eq]
    congr 2 <;> grind
  · have hl : 2 ≤ (kidsN t.fOp).1 := by rw [h]; decide
    have i0 : (0 : Int) < (k.length : Int) := by omega
    have i1 : (1 : Int) < (k.length : Int) := by omega
    simp only [Z0, h, Bool.cond_decide, Int.reduceEq, Int.reduceLE, reduceIte, List.length_map, getLow (show 0 < k.length by omega), getHigh (show 0 < k.length by omega), getLow (show 1 < k.length by omega), getHigh (show 1 < k.length by omega), i0, i1, Int.le_refl, and_self, if_true, false_and, if_false, m113_eq, m112_eq]
    congr 2 <;> grind
  · have hl : 2 ≤ (kidsN t.fOp).1 := by rw [h]; decide
    have i1 : (1 : Int) < (k.length : Int) := by omega
    have e := a175_0_eq k (by omega) (by omega) k[1]!
    simp only [Z0, h, Bool.cond_decide, Int.reduceEq, Int.reduceLE, reduceIte, List.length_map, getLow (show 1 < k.length by omega), getHigh (show 1 < k.length by omega), e, i1, Int.le_refl, and_self, if_true, Int.lt_irrefl, if_false, true_or, false_and]
  · have hl : 2 ≤ (kidsN t.fOp).1 := by rw [h]; decide
    have i1 : (1 : Int) < (k.length : Int) := by omega
    have e := a175_0_eq k (by omega) (by omega) k[1]!
    simp only [Z0, h, Bool.cond_decide, Int.reduceEq, Int.reduceLE, reduceIte, List.length_map, getLow (show 1 < k.length by omega), getHigh (show 1 < k.length by omega), e, i1, Int.le_refl, and_self, if_true, Int.lt_irrefl, if_false, or_true, false_and]
  · obtain ⟨c1, c2, c3, c4, c5, c6, c7, c8, c9, c18, c11, c12⟩ := h
    simp only [c1, c2, c3, c4, c5, c6, c7, c8, c9, c18, c11, c12, Bool.cond_decide, if_false, or_self, false_and]
def rngY (vars : List GVar) (t : GTerm) : Int × Int × Bool := match allS (t.fKids.map (rngS vars)) with
 | none => (0, 0, false)
 | some l => ((rule2 vars t l).fLow, (rule2 vars t l).fHigh, limS (rule2 vars t l))
theorem rngY_eq (vars : List GVar) (t : GTerm) : rngS vars t = if (rngY vars t).2.2 = true then some ⟨(rngY vars t).1, (rngY vars t).2.1⟩ else none := by
 rw [rngS_eq, rngY]
 cases h : allS (t.fKids.map (rngS vars)) with
 | none => rfl
 | some l =>
  obtain ⟨h1, h2⟩ := rule2_lim vars t l
  simp_all
theorem s110_eq (M : List GVar → GTerm → Option E110) (vars : List GVar) (hv : VarsOk vars) (inp : Bool) (t : GTerm) (hf : formS vars inp t = true) (hM : ∀ k ∈ t.fKids, M vars k = some (rngY vars k)) : s110 M vars t = some (rngY vars t) := by
  have h33 := form_len hf
  obtain ⟨i, b, e1, hI, hc⟩ := loopJ (rnd := n110_0 M) t.fKids.length (fun i (b : List Span) => ⟨vars, b.map (·.fLow), b.map (·.fHigh), (i : Int), t⟩) (fun i b => (t.fKids.take i).map (rngS vars) = b.map some) (fun i _ => (rngY vars t.fKids[i]!).2.2 = false) (fun i b hi hb => by
    have hw := w1L hi (by omega)
    have hk := hM _ (get_memL hi)
    have hlen : b.length = i := by have := congrArg List.length hb; simp at this; omega
    cases hx : (rngY vars t.fKids[i]!).2.2 with
    | true =>
      refine .inl ⟨b ++ [⟨(rngY vars t.fKids[i]!).1, (rngY vars t.fKids[i]!).2.1⟩], ?_, ?_⟩
      · have hl2 : (b.map (·.fLow) ++ [(rngY vars t.fKids[i]!).1]).length ≤ 1073741824 := by simp; omega
        have hl3 : (b.map (·.fHigh) ++ [(rngY vars t.fKids[i]!).2.1]).length ≤ 1073741824 := by simp; omega
        unfold n110_0
        simp only [Int.toNat_natCast, GTerm.eta, hk, hx, hl2, hl3, hw]
        simp [hi]
      · rw [take_succL hi, List.map_append, hb, List.map_append]
        rw [List.map_cons, List.map_cons, rngY_eq, if_pos hx]
        rfl
    | false =>
      unfold n110_0
      simp only [Int.toNat_natCast, GTerm.eta, hk, hx]
      simp [hi]) (fun b _ => by unfold n110_0; simp) (b := []) rfl
  have e1' : a110_0 M ⟨vars, [], [], 0, t⟩ = some ⟨vars, b.map (·.fLow), b.map (·.fHigh), (i : Int), t⟩ := e1
  unfold s110
  rw [GTerm.eta, e1']
  dsimp only
  rcases hc with rfl | ⟨hi, hx⟩
  · rw [List.take_length] at hI
    have ha : allS (t.fKids.map (rngS vars)) = some b := by rw [hI]; exact allS_map b
    rw [decide_eq_false (by omega), cond_false, GTerm.eta, m175_eq vars t b (kids_all hv hf ha)]
    unfold rngY
    unfold limS
    grind
  · have hk := hM _ (get_memL hi)
    have ha : allS (t.fKids.map (rngS vars)) = none := allS_none (List.mem_map.2 ⟨t.fKids[i]!, get_memL hi, by rw [rngY_eq, hx]; simp⟩)
    rw [decide_eq_true (by omega), cond_true, if_pos ⟨by omega, by omega⟩]
    simp only [Int.toNat_natCast, GTerm.eta, hk, hx, cond_true, cond_false]
    unfold rngY
    rw [ha]
theorem m110_eq (vars : List GVar) (hv : VarsOk vars) (inp : Bool) : ∀ (n : Nat) (t : GTerm), SizeOf.sizeOf t < n → formS vars inp t = true → m110 n vars t = some (rngY vars t)
 | 0, _, h, _ => by omega
 | n + 1, t, h, hf => s110_eq (m110 n) vars hv inp t hf (fun k hk => m110_eq vars hv inp n k (by have := GTerm.kids_lt hk; omega) (form_kid hf hk))
theorem r110_eq (vars : List GVar) (hv : VarsOk vars) (inp : Bool) (t : GTerm) (hf : formS vars inp t = true) : r110 vars t = some (rngY vars t) := lim_eq (SizeOf.sizeOf t + 1) fun n hn => m110_eq vars hv inp n t (by omega) hf
theorem m54_eq (vars : List GVar) (hv : VarsOk vars) (inp : Bool) (t : GTerm) : m54 vars t inp = some (termC vars inp t) := by
 unfold m54 termC
 rw [GTerm.eta, r109_eq]
 cases hf : formS vars inp t with
 | false => rfl
 | true =>
  rw [r110_eq vars hv inp t hf, rngY_eq]
  dsimp only
  cases (rngY vars t).2.2 <;> rfl
theorem Hatch.eta (h : Hatch) : Hatch.mk h.fName h.fLow h.fHigh h.fTerm = h := by cases h; rfl
theorem m168_eq (l : List Hatch) (hl : l.length ≤ 1000000) (v : Hatch) : m168 l v = some (l.any fun w => w.fName.toList == v.fName.toList) := by
  obtain ⟨i, e1, hc⟩ := loopB (rnd := n227_0) l (fun i => ⟨l, v.fName, v.fLow, v.fHigh, v.fTerm.fOp, v.fTerm.fN, v.fTerm.fKids, (l.length : Int), (i : Int)⟩) (fun _ w => !(w.fName.toList == v.fName.toList)) (fun i hi => by
    have hw := w1L hi hl
    unfold n227_0 m167
    grind) (by unfold n227_0; simp)
  have e1' : a227_0 ⟨l, v.fName, v.fLow, v.fHigh, v.fTerm.fOp, v.fTerm.fN, v.fTerm.fKids, (l.length : Int), 0⟩ = some ⟨l, v.fName, v.fLow, v.fHigh, v.fTerm.fOp, v.fTerm.fN, v.fTerm.fKids, (l.length : Int), (i : Int)⟩ := e1
  unfold m168 m227
  rw [e1']
  rcases hc with ⟨rfl, hc⟩ | ⟨hi, hc⟩
  · rw [not_any fun j hj => by have := hc j hj; simpa using this]
    simp
  · have hc' : (l[i]!.fName.toList == v.fName.toList) = true := by simpa using hc
    rw [is_any hi hc']
    unfold m167
    simp only [Int.toNat_natCast, hc']
    simp [hi]
theorem a15_1_eq (f : Flat) (hl : f.fHatches.length ≤ 1000000) (n : Nat) (hn : n ≤ f.fHatches.length) (v : Hatch) :
    ∃ i : Nat, a15_1 ⟨n, 0, f, v⟩ = some ⟨n, (i : Int), f, v⟩ ∧ ((i = n ∧ ((f.fHatches.take n).any fun w => w.fName.toList == v.fName.toList) = false) ∨ (i < n ∧ (f.fHatches[i]!.fName.toList == v.fName.toList) = true ∧ ((f.fHatches.take n).any fun w => w.fName.toList == v.fName.toList) = true)) := by
  have hlen : (f.fHatches.take n).length = n := by rw [List.length_take]; omega
  have hget : ∀ i, i < n → (f.fHatches.take n)[i]! = f.fHatches[i]! := fun i hi => by
    rw [getElem!_pos _ i (by omega), getElem!_pos _ i (by omega), List.getElem_take]
  obtain ⟨i, e1, hc⟩ := loopB (rnd := n15_1) (f.fHatches.take n) (fun i => ⟨(n : Int), (i : Int), f, v⟩) (fun _ w => !(w.fName.toList == v.fName.toList)) (fun i hi => by
    have hw := w1L hi (by omega)
    unfold n15_1
    simp only [GTerm.eta, Hatch.eta]
    grind) (by rw [hlen]; unfold n15_1; simp)
  refine ⟨i, e1, ?_⟩
  rw [hlen] at hc
  rcases hc with ⟨rfl, hc⟩ | ⟨hi, hc⟩
  · exact .inl ⟨rfl, not_any fun j hj => by have := hc j (by omega); simpa using this⟩
  · have hc' : ((f.fHatches.take n)[i]!.fName.toList == v.fName.toList) = true := by simpa using hc
    exact .inr ⟨hi, by rw [← hget i hi]; exact hc', is_any (by omega) hc'⟩
theorem m233_eq (t : GTerm) : m233 t = zeroT t := by
 unfold m233 zeroT
 simp
theorem m176_eq (t : GTerm) : m176 t = zeroT t := by
 unfold m176 zeroT
 simp
theorem riseB_get : ∀ (l : List Int), riseB l = true ↔ ∀ i, i + 1 < l.length → l[i]! < l[i + 1]!
  | [] => by simp [riseB]
  | [a] => by simp [riseB]
  | a :: b :: l => by
    unfold riseB
    rw [Bool.and_eq_true, riseB_get (b :: l), decide_eq_true_iff]
    constructor
    · rintro ⟨h1, h2⟩ i hi
      cases i with
      | zero => exact h1
      | succ i => exact h2 i (by simpa using hi)
    · intro h
      exact ⟨h 0 (by simp), fun i hi => h (i + 1) (by simpa using hi)⟩
theorem m234_eq (l : List Int) (hl : l.length ≤ 1000000) : m234 l = some (riseB l) := by
  obtain ⟨i, e1, hc⟩ := loopB (rnd := n234_0) l (fun i => ⟨l, (l.length : Int), (i : Int)⟩) (fun i x => decide (i = 0) || decide (l[i - 1]! < x)) (fun i hi => by
    have hw := w1L hi hl
    have hw2 : i64.wrap ((i : Int) - 1) = (i : Int) - 1 := wrap_id (by omega) (by omega)
    have hw3 : ((i : Int) - 1).toNat = i - 1 := by omega
    unfold n234_0
    grind) (by unfold n234_0; simp)
  have e1' : a234_0 ⟨l, (l.length : Int), 0⟩ = some ⟨l, (l.length : Int), (i : Int)⟩ := e1
  unfold m234
  rw [e1']
  rcases hc with ⟨rfl, hc⟩ | ⟨hi, hc⟩
  · have : riseB l = true := (riseB_get l).2 fun i hi => by
      have := hc (i + 1) hi
      simpa using this
    rw [this]
    simp
  · have hc' : i ≠ 0 ∧ ¬ l[i - 1]! < l[i]! := by
      simp only [Bool.or_eq_false_iff, decide_eq_false_iff_not] at hc
      exact hc
    have : riseB l = false := by
      cases hr : riseB l with
      | false => rfl
      | true =>
        have := (riseB_get l).1 hr (i - 1) (by omega)
        rw [show i - 1 + 1 = i by omega] at this
        omega
    have hw2 : i64.wrap ((i : Int) - 1) = (i : Int) - 1 := wrap_id (by omega) (by omega)
    have hw3 : ((i : Int) - 1).toNat = i - 1 := by omega
    grind
theorem m177_eq (l : List Int) (hl : l.length ≤ 1000000) : m177 l = some (decide (1 ≤ l.length ∧ l.length ≤ 32) && decide ((0 : Int) ≤ l[0]!) && riseB l) := by
  unfold m177
  by_cases h1 : 1 ≤ l.length ∧ l.length ≤ 32
  case neg =>
    rw [decide_eq_false h1]
    try simp only
    grind
  rw [decide_eq_true h1, decide_eq_false (show ¬ (l.length : Int) < 1 by omega), decide_eq_false (show ¬ 32 < (l.length : Int) by omega), if_pos (⟨Int.le_refl _, by omega⟩ : (0 : Int) ≤ 0 ∧ (0 : Int) < (l.length : Int))]
  have hz : l[Int.toNat 0]! = l[0]! := rfl
  rw [hz]
  by_cases h0 : (0 : Int) ≤ l[0]!
  case neg =>
    rw [decide_eq_false h0, decide_eq_true (show l[0]! < 0 by omega)]
    rfl
  rw [decide_eq_true h0, decide_eq_false (show ¬ l[0]! < 0 by omega)]
  dsimp only [cond_false]
  have hlen : (l.drop 1).length = l.length - 1 := List.length_drop ..
  have hget : ∀ i, i < l.length - 1 → (l.drop 1)[i]! = l[i + 1]! := fun i hi => by
    simp
  obtain ⟨i, e1, hc⟩ := loopB (rnd := n177_0) (l.drop 1) (fun i => ⟨l, ((i + 1 : Nat) : Int)⟩) (fun i x => decide (l[i]! < x)) (fun i hi => by
    have hw := w1L (show i + 1 < l.length by omega) hl
    have hw2 : i64.wrap (((i + 1 : Nat) : Int) - 1) = (i : Int) := by rw [wrap_id (by omega) (by omega)]; omega
    unfold n177_0
    grind) (by
      unfold n177_0
      simp only [Bool.cond_decide]
      rw [if_neg (by omega)])
  have e1' : a177_0 ⟨l, 1⟩ = some ⟨l, ((i + 1 : Nat) : Int)⟩ := e1
  rw [e1']
  dsimp only
  rw [hlen] at hc
  rcases hc with ⟨rfl, hc⟩ | ⟨hi, hc⟩
  · have : riseB l = true := (riseB_get l).2 fun i hi => by
      have := hc i (by omega)
      simpa using this
    rw [this, decide_eq_false (show ¬ (((l.length - 1 + 1 : Nat) : Int) < (l.length : Int)) by omega)]
    rfl
  · rw [hget i hi] at hc
    have hc' : ¬ l[i]! < l[i + 1]! := by simpa using hc
    have : riseB l = false := by
      cases hr : riseB l with
      | false => rfl
      | true => exact absurd ((riseB_get l).1 hr i (by omega)) hc'
    have hw2 : i64.wrap (((i + 1 : Nat) : Int) - 1) = (i : Int) := by rw [wrap_id (by omega) (by omega)]; omega
    grind
theorem m170_eq (f : Flat) (s : GStep) (last : Bool) : m170 f s last = some (shapeB f s last) := by
 have h199 : s.fBounds.length ≤ 32 → m234 s.fBounds = some (riseB s.fBounds) := fun h => m234_eq _ (by omega)
 have hz : s.fBounds[Int.toNat 0]! = s.fBounds[0]! := rfl
 unfold m170 m230 m231 m232
 rw [GTerm.eta, m233_eq, hz]
 obtain ⟨X, hX⟩ : ∃ X, X = shapeB f s last := ⟨_, rfl⟩
 have hX1 : X = true ↔ shapeB f s last = true := by rw [hX]
 unfold shapeB localB at hX1
 generalize zeroT s.fTerm = Z at *
 have cs : s.fDo = 0 ∨ s.fDo = 1 ∨ s.fDo = 2 ∨ s.fDo = 3 ∨ s.fDo = 4 ∨ s.fDo = 5 ∨ s.fDo = 6 ∨ s.fDo < 0 ∨ 6 < s.fDo := by omega
 rcases cs with h | h | h | h | h | h | h | h | h
 case inr.inr.inr.inr.inr.inr.inr.inl => rw [decide_eq_true h]; dsimp only [cond_true]; cases X <;> grind
 case inr.inr.inr.inr.inr.inr.inr.inr => rw [decide_eq_true h, decide_eq_false (by omega)]; dsimp only [cond_true, cond_false]; cases X <;> grind
 all_goals
  rw [h] at hX1 ⊢
  cases X <;> cases Z <;> simp only [Int.reduceEq, Int.reduceLT, decide_true, decide_false, cond_true, cond_false, if_true, if_false, Bool.cond_decide, reduceIte, Bool.and_eq_true] at hX1 ⊢ <;> grind (splits := 40)
theorem bif_some (a b : Bool) : (bif a then some b else some false) = some (a && b) := by cases a <;> rfl
theorem m111_eq (f : Flat) (s : GStep) (last : Bool) (hb : s.fBounds.length ≤ 1000000) : m111 f s last = some (shapeB f s last) := by
 have h173 := m177_eq s.fBounds hb
 have e1 : (bif decide ((s.fThen.length : Int) = 0) then some (decide ((s.fElse.length : Int) = 0)) else some false) = some (decide (s.fThen.length = 0 ∧ s.fElse.length = 0)) := by
  by_cases a1 : s.fThen.length = 0 <;> by_cases a2 : s.fElse.length = 0 <;> simp [a1]
 have e2 : (bif decide (0 ≤ s.fVar) then bif decide (s.fVar < (f.fVars.length : Int)) then if (0 : Int) ≤ s.fVar ∧ s.fVar < (f.fVars.length : Int) then some (decide (f.fVars[s.fVar.toNat]!.fKind = 0)) else none else some false else some false) = some (localB f s) := by
  unfold localB
  by_cases a1 : 0 ≤ s.fVar <;> by_cases a2 : s.fVar < (f.fVars.length : Int) <;> simp [a1, a2]
 unfold m111
 rw [GTerm.eta, m176_eq, h173, e1, e2]
 unfold shapeB
 generalize decide (s.fThen.length = 0 ∧ s.fElse.length = 0) = F
 have hi : ((s.fBounds.length : Int) = 0) ↔ s.fBounds.length = 0 := by omega
 have hi2 : ((s.fElse.length : Int) = 0) ↔ s.fElse.length = 0 := by omega
 simp only [hi, hi2]
 have cs : s.fDo = 0 ∨ s.fDo = 1 ∨ s.fDo = 2 ∨ s.fDo = 3 ∨ s.fDo = 4 ∨ s.fDo = 5 ∨ s.fDo = 6 ∨ (s.fDo ≠ 0 ∧ s.fDo ≠ 1 ∧ s.fDo ≠ 2 ∧ s.fDo ≠ 3 ∧ s.fDo ≠ 4 ∧ s.fDo ≠ 5 ∧ s.fDo ≠ 6) := by omega
 rcases cs with h | h | h | h | h | h | h | ⟨h0, h1, h2, h3, h4, h5, h6⟩
 case inr.inr.inr.inr.inr.inr.inr => simp only [h0, h1, h2, h3, h4, h5, h6, decide_false, cond_false, if_false]
 all_goals
  rw [h]
  simp only [Int.reduceEq, decide_false, cond_false]
  try rw [Bool.decide_and]
  simp only [bif_some]
  first | done | (congr 1; ac_rfl)
theorem m171_eq (s : GStep) (hb : s.fDo = 6 → 1 ≤ s.fBounds.length ∧ s.fBounds.length ≤ 32) : m171 s = some (numB s) := by
  unfold m171 numB
  by_cases h6 : s.fDo = 6
  · obtain ⟨b1, b2⟩ := hb h6
    have hw : i64.wrap ((s.fBounds.length : Int) - 1) = (s.fBounds.length : Int) - 1 := wrap_id (by omega) (by omega)
    have hw2 : ((s.fBounds.length : Int) - 1).toNat = s.fBounds.length - 1 := by omega
    grind (splits := 30)
  · rw [decide_eq_false h6, if_neg h6]
    by_cases h2 : s.fDo = 2
    · rw [h2]
      grind (splits := 30)
    · rw [decide_eq_false h2, if_neg h2]
      grind (splits := 30)
theorem shape_bounds {f : Flat} {s : GStep} {last : Bool} (h : shapeB f s last = true) : (s.fDo = 6 → 1 ≤ s.fBounds.length ∧ s.fBounds.length ≤ 32) ∧ (s.fDo ≠ 6 → s.fBounds.length = 0) ∧ (s.fDo ≠ 3 → s.fDo ≠ 4 → s.fThen = []) ∧ (s.fDo ≠ 3 → s.fElse = []) ∧ (s.fDo ≠ 4 → 0 ≤ s.fN) := by
 unfold shapeB at h
 have e1 : s.fThen.length = 0 → s.fThen = [] := List.length_eq_zero_iff.1
 have e2 : s.fElse.length = 0 → s.fElse = [] := List.length_eq_zero_iff.1
 refine ⟨fun h6 => ?_, fun h6 => ?_, fun h3 h4 => e1 ?_, fun h3 => e2 ?_, fun h4 => ?_⟩ <;> grind (splits := 40)
theorem a100_1_eq (M : Flat → List GStep → Bool → Option E100) (f : Flat) (l A B : List GStep) (top : Bool) (n i a b : Int) (ha : M f A false = some a) (hb : M f B false = some b) :
    a100_1 M ⟨l, top, l, n, i, [A, B], 2, 0, f⟩ = some ⟨l, top, l, n, i, [A, B], 2, if a ≠ 0 then 0 else if b ≠ 0 then 1 else 2, f⟩ := by
  have w0 : i64.wrap 1 = 1 := rfl
  have w1 : i64.wrap 2 = 2 := rfl
  have r1 : n100_1 M ⟨l, top, l, n, i, [A, B], 2, 0, f⟩ = if a ≠ 0 then some none else some (some ⟨l, top, l, n, i, [A, B], 2, 1, f⟩) := by
    unfold n100_1
    by_cases h : a = 0 <;> simp [ha, w0]
  have r2 : n100_1 M ⟨l, top, l, n, i, [A, B], 2, 1, f⟩ = if b ≠ 0 then some none else some (some ⟨l, top, l, n, i, [A, B], 2, 2, f⟩) := by
    unfold n100_1
    by_cases h : b = 0 <;> simp [hb, w1]
  have r3 : n100_1 M ⟨l, top, l, n, i, [A, B], 2, 2, f⟩ = some none := by
    rfl
  unfold a100_1
  by_cases h1 : a ≠ 0
  · rw [if_pos h1] at r1 ⊢
    exact advG_stop fun r => by rw [r1]; simp
  · rw [if_neg h1] at r1 ⊢
    rw [advG_step r1]
    by_cases h2 : b ≠ 0
    · rw [if_pos h2] at r2 ⊢
      exact advG_stop fun r => by rw [r2]; simp
    · rw [if_neg h2] at r2 ⊢
      rw [advG_step r2]
      exact advG_stop fun r => by rw [r3]; simp
theorem lastB (n i : Nat) (hn : n ≤ 1000000) : decide ((i : Int) = i64.wrap ((n : Int) - 1)) = decide (i + 1 = n) := by
 rw [wrap_id (by omega) (by omega)]
 apply decide_eq_decide.2
 omega
theorem round113 (M : Flat → List GStep → Bool → Option E100) (f : Flat) (hv : VarsOk f.fVars) (l : List GStep) (hl : l.length ≤ 1000000) (top : Bool) (hM : ∀ s ∈ l, M f s.fThen false = some (stepC f false s.fThen) ∧ M f s.fElse false = some (stepC f false s.fElse)) (i : Nat) (hi : i < l.length) :
    (stC f top l.length i l[i]! = 0 → n100_0 M ⟨l, top, l, (l.length : Int), (i : Int), f⟩ = some (some ⟨l, top, l, (l.length : Int), ((i + 1 : Nat) : Int), f⟩)) ∧ (stC f top l.length i l[i]! ≠ 0 → n100_0 M ⟨l, top, l, (l.length : Int), (i : Int), f⟩ = some none) := by
  have hw := w1L hi hl
  obtain ⟨k1, k2⟩ := hM _ (get_memL hi)
  have hin := a100_1_eq M f l l[i]!.fThen l[i]!.fElse top (l.length : Int) (i : Int) _ _ k1 k2
  have hlen : (([l[i]!.fThen, l[i]!.fElse] : List (List GStep)).length : Int) = 2 := rfl
  have hi1 : (i : Int) < (l.length : Int) := by omega
  have hi0 : (0 : Int) ≤ (i : Int) := by omega
  unfold n100_0 stC ownC
  simp only [Int.toNat_natCast, GTerm.eta, GStep.eta, m170_eq, lastB l.length i hl, m169_eq f.fVars hv, hlen, hin, hi1]
  have e1' : (bif top then some (bif shapeB f l[i]! (decide (i + 1 = l.length)) then false else true) else some (bif shapeB f l[i]! false then false else true)) = some (bif shapeB f l[i]! (top && decide (i + 1 = l.length)) then false else true) := by cases top <;> rfl
  rw [e1']
  have hS : shapeB f l[i]! (top && decide (i + 1 = l.length)) = true → m171 l[i]! = some (numB l[i]!) := fun h => m171_eq _ (shape_bounds h).1
  revert hS
  generalize shapeB f l[i]! (top && decide (i + 1 = l.length)) = S
  intro hS
  generalize l[i]!.fThen = A at k1 hin ⊢
  generalize l[i]!.fElse = B at k2 hin ⊢
  cases S with
  | false => simp
  | true =>
    rw [hS rfl]
    generalize numB l[i]! = N
    cases N with
    | false => simp
    | true =>
      generalize termC f.fVars false l[i]!.fTerm = T
      generalize stepC f false A = a at *
      generalize stepC f false B = b at *
      by_cases hT : T = 0
      · by_cases ha : a = 0
        · by_cases hb : b = 0
          · simp [hT, ha, hb, hw]
          · simp [hT, ha, hb, k2]
        · simp [hT, ha, k1]
      · simp [hT]
theorem s100_eq (M : Flat → List GStep → Bool → Option E100) (f : Flat) (hv : VarsOk f.fVars) (l : List GStep) (hl : l.length ≤ 1000000) (top : Bool) (hM : ∀ s ∈ l, M f s.fThen false = some (stepC f false s.fThen) ∧ M f s.fElse false = some (stepC f false s.fElse)) : s100 M f l top = some (stepC f top l) := by
  obtain ⟨i, e1, hc⟩ := loopC (rnd := n100_0 M) l (fun i => ⟨l, top, l, (l.length : Int), (i : Int), f⟩) (stC f top l.length) (fun i hi => round113 M f hv l hl top hM i hi) (by unfold n100_0; simp)
  have e1' : a100_0 M ⟨l, top, l, (l.length : Int), 0, f⟩ = some ⟨l, top, l, (l.length : Int), (i : Int), f⟩ := e1
  rw [stepC_first f top l.length l 0 (by omega)] at hc
  unfold s100
  rw [e1']
  rcases hc with ⟨rfl, hc⟩ | ⟨hi, h0, hc⟩
  · rw [hc]
    simp
  · rw [hc]
    obtain ⟨k1, k2⟩ := hM _ (get_memL hi)
    have hin := a100_1_eq M f l l[i]!.fThen l[i]!.fElse top (l.length : Int) (i : Int) _ _ k1 k2
    have hlen : (([l[i]!.fThen, l[i]!.fElse] : List (List GStep)).length : Int) = 2 := rfl
    have hi1 : (i : Int) < (l.length : Int) := by omega
    have hi0 : (0 : Int) ≤ (i : Int) := by omega
    revert h0
    unfold stC ownC
    simp only [Int.toNat_natCast, GTerm.eta, GStep.eta, m170_eq, lastB l.length i hl, m169_eq f.fVars hv, hlen, hin, hi1]
    have e1' : (bif top then some (bif shapeB f l[i]! (decide (i + 1 = l.length)) then false else true) else some (bif shapeB f l[i]! false then false else true)) = some (bif shapeB f l[i]! (top && decide (i + 1 = l.length)) then false else true) := by cases top <;> rfl
    rw [e1']
    have hS : shapeB f l[i]! (top && decide (i + 1 = l.length)) = true → m171 l[i]! = some (numB l[i]!) := fun h => m171_eq _ (shape_bounds h).1
    revert hS
    generalize shapeB f l[i]! (top && decide (i + 1 = l.length)) = S
    intro hS
    generalize l[i]!.fThen = A at k1 hin ⊢
    generalize l[i]!.fElse = B at k2 hin ⊢
    cases S with
    | false => simp
    | true =>
      rw [hS rfl]
      generalize numB l[i]! = N
      cases N with
      | false => simp
      | true =>
        generalize termC f.fVars false l[i]!.fTerm = T
        generalize stepC f false A = a at *
        generalize stepC f false B = b at *
        by_cases hT : T = 0
        · by_cases ha : a = 0
          · by_cases hb : b = 0
            · simp [hT, ha, hb]
            · simp [hT, ha, hb, k2]
          · simp [hT, ha, k1]
        · simp [hT]
theorem m100_eq (f : Flat) (hv : VarsOk f.fVars) : ∀ (n : Nat) (l : List GStep) (top : Bool), SizeOf.sizeOf l < n → nSs l ≤ 1000 → m100 n f l top = some (stepC f top l)
 | 0, _, _, h, _ => by omega
 | n + 1, l, top, h, h2 => s100_eq (m100 n) f hv l (by have := nSs_len l; omega) top (fun s hs => ⟨m100_eq f hv n _ _ (by have := sizeOf_then hs; omega) (by have := then_le hs; omega), m100_eq f hv n _ _ (by have := sizeOf_then hs; omega) (by have := then_le hs; omega)⟩)
theorem r100_eq (f : Flat) (hv : VarsOk f.fVars) (l : List GStep) (top : Bool) (h : nSs l ≤ 1000) : r100 f l top = some (stepC f top l) := lim_eq (SizeOf.sizeOf l + 1) fun n hn => m100_eq f hv n l top (by omega) h
theorem num_ref {f : Flat} {s : GStep} {last : Bool} (h : shapeB f s last = true) (c : Int) (hc : c = if s.fDo = 2 then 67108864 else 10000) :
    ((bif decide (s.fCost < 0) then some true else bif decide (c < s.fCost) then some true else bif decide (s.fN < 0) then some true else bif decide (s.fDo = 4) then some (decide (4096 < s.fN)) else some false) : Option Bool) = some (!(decide (0 ≤ s.fCost ∧ s.fCost ≤ c) && (if s.fDo = 4 then decide (0 ≤ s.fN ∧ s.fN ≤ 4096) else true))) := by
  obtain ⟨b1, b2, b3, b4, b5⟩ := shape_bounds h
  by_cases h1 : s.fCost < 0
  · simp [h1]
  by_cases h2 : c < s.fCost
  · simp [h2]
  by_cases h3 : s.fN < 0
  · have h4 : s.fDo = 4 := by
      omega
    simp [h3, h4]
  by_cases h4 : s.fDo = 4
  · simp [h1, h2, h3]
    by_cases h5 : 4096 < s.fN
    · grind
    · simp_all
  · simp [h1, h2, h3, h4, show 0 ≤ s.fCost by omega, show s.fCost ≤ c by omega]
theorem bnd_ref {f : Flat} {s : GStep} {last : Bool} (h : shapeB f s last = true) :
    ((bif decide (0 < (s.fBounds.length : Int)) then if (0 : Int) ≤ i64.wrap ((s.fBounds.length : Int) - (1 : Int)) ∧ i64.wrap ((s.fBounds.length : Int) - (1 : Int)) < (s.fBounds.length : Int) then some (decide (67108864 < s.fBounds[(i64.wrap ((s.fBounds.length : Int) - 1)).toNat]!)) else none else some false) : Option Bool) = some (!(if s.fDo = 6 then decide (s.fBounds[s.fBounds.length - 1]! ≤ 67108864) else true)) := by
  obtain ⟨b1, b2, b3, b4, b5⟩ := shape_bounds h
  by_cases h6 : s.fDo = 6
  · obtain ⟨b1, b2⟩ := b1 h6
    have hw : i64.wrap ((s.fBounds.length : Int) - 1) = (s.fBounds.length : Int) - 1 := wrap_id (by omega) (by omega)
    have hw2 : ((s.fBounds.length : Int) - 1).toNat = s.fBounds.length - 1 := by omega
    rw [hw, hw2, decide_eq_true (by omega), cond_true, if_pos ⟨by omega, by omega⟩, if_pos h6]
    generalize s.fBounds[s.fBounds.length - 1]! = B
    by_cases h : 67108864 < B
    · simp [h]
    · simp [h]; omega
  · rw [decide_eq_false (by have := b2 h6; omega), if_neg h6]
    rfl
theorem round63 (M : Flat → List GStep → Bool → Option E55) (f : Flat) (hv : VarsOk f.fVars) (l : List GStep) (hl : l.length ≤ 1000000) (hB : ∀ s ∈ l, s.fBounds.length ≤ 1000000) (top : Bool) (hM : ∀ s ∈ l, M f s.fThen false = some (stepC f false s.fThen) ∧ M f s.fElse false = some (stepC f false s.fElse)) (i : Nat) (hi : i < l.length) :
    (stC f top l.length i l[i]! = 0 → n55_0 M ⟨l, top, (i : Int), f⟩ = some (some ⟨l, top, ((i + 1 : Nat) : Int), f⟩)) ∧ (stC f top l.length i l[i]! ≠ 0 → n55_0 M ⟨l, top, (i : Int), f⟩ = some none) := by
  have hw := w1L hi hl
  obtain ⟨k1, k2⟩ := hM _ (get_memL hi)
  have hb := hB _ (get_memL hi)
  have hi1 : (i : Int) < (l.length : Int) := by omega
  have hi0 : (0 : Int) ≤ (i : Int) := by omega
  unfold n55_0 stC ownC
  simp only [Int.toNat_natCast, GTerm.eta, GStep.eta, m111_eq f l[i]! _ hb, lastB l.length i hl, m54_eq f.fVars hv, hw, hi1]
  have e1' : (bif top then some (bif shapeB f l[i]! (decide (i + 1 = l.length)) then false else true) else some (bif shapeB f l[i]! false then false else true)) = some (bif shapeB f l[i]! (top && decide (i + 1 = l.length)) then false else true) := by cases top <;> rfl
  rw [e1']
  cases hS : shapeB f l[i]! (top && decide (i + 1 = l.length)) with
  | false => simp
  | true =>
    have hn := num_ref hS
    rw [bnd_ref hS]
    unfold numB
    generalize (if l[i]!.fDo = 6 then decide (l[i]!.fBounds[l[i]!.fBounds.length - 1]! ≤ 67108864) else true) = B6
    by_cases h2 : l[i]!.fDo = 2
    · grind
    · rw [if_neg h2] at hn ⊢
      rw [decide_eq_false h2, hn 10000 rfl]
      generalize (decide (0 ≤ l[i]!.fCost ∧ l[i]!.fCost ≤ 10000) && (if l[i]!.fDo = 4 then decide (0 ≤ l[i]!.fN ∧ l[i]!.fN ≤ 4096) else true)) = N
      generalize termC f.fVars false l[i]!.fTerm = T
      generalize l[i]!.fThen = A at k1 ⊢
      generalize l[i]!.fElse = B at k2 ⊢
      generalize stepC f false A = a at *
      generalize stepC f false B = b at *
      cases N with
      | false => simp
      | true =>
        cases B6 with
        | false => simp
        | true =>
          by_cases hT : T = 0
          · by_cases ha : a = 0
            · by_cases hb : b = 0
              · simp [hT, ha, hb, k1, k2]
              · simp [hT, ha, hb, k1, k2]
            · simp [hT, ha, k1]
          · simp [hT]
theorem s55_eq (M : Flat → List GStep → Bool → Option E55) (f : Flat) (hv : VarsOk f.fVars) (l : List GStep) (hl : l.length ≤ 1000000) (hB : ∀ s ∈ l, s.fBounds.length ≤ 1000000) (top : Bool) (hM : ∀ s ∈ l, M f s.fThen false = some (stepC f false s.fThen) ∧ M f s.fElse false = some (stepC f false s.fElse)) : s55 M f l top = some (stepC f top l) := by
  obtain ⟨i, e1, hc⟩ := loopC (rnd := n55_0 M) l (fun i => ⟨l, top, (i : Int), f⟩) (stC f top l.length) (fun i hi => round63 M f hv l hl hB top hM i hi) (by unfold n55_0; simp)
  have e1' : a55_0 M ⟨l, top, 0, f⟩ = some ⟨l, top, (i : Int), f⟩ := e1
  rw [stepC_first f top l.length l 0 (by omega)] at hc
  unfold s55
  rw [e1']
  dsimp only
  rcases hc with ⟨rfl, hc⟩ | ⟨hi, h0, hc⟩
  · simp_all
  · rw [hc]
    obtain ⟨k1, k2⟩ := hM _ (get_memL hi)
    have hb := hB _ (get_memL hi)
    have hi1 : (i : Int) < (l.length : Int) := by omega
    have hi0 : (0 : Int) ≤ (i : Int) := by omega
    revert h0
    unfold stC ownC
    simp only [Int.toNat_natCast, GTerm.eta, GStep.eta, m111_eq f l[i]! _ hb, lastB l.length i hl, m54_eq f.fVars hv, hi1]
    have e1' : (bif top then some (bif shapeB f l[i]! (decide (i + 1 = l.length)) then false else true) else some (bif shapeB f l[i]! false then false else true)) = some (bif shapeB f l[i]! (top && decide (i + 1 = l.length)) then false else true) := by cases top <;> rfl
    rw [e1']
    cases hS : shapeB f l[i]! (top && decide (i + 1 = l.length)) with
    | false => simp
    | true =>
      have hn := num_ref hS
      rw [bnd_ref hS]
      unfold numB
      generalize (if l[i]!.fDo = 6 then decide (l[i]!.fBounds[l[i]!.fBounds.length - 1]! ≤ 67108864) else true) = B6
      by_cases h2 : l[i]!.fDo = 2
      · rw [if_pos h2] at hn ⊢
        rw [decide_eq_true h2, hn 67108864 rfl]
        generalize (decide (0 ≤ l[i]!.fCost ∧ l[i]!.fCost ≤ 67108864) && (if l[i]!.fDo = 4 then decide (0 ≤ l[i]!.fN ∧ l[i]!.fN ≤ 4096) else true)) = N
        generalize termC f.fVars false l[i]!.fTerm = T
        generalize l[i]!.fThen = A at k1 ⊢
        generalize l[i]!.fElse = B at k2 ⊢
        generalize stepC f false A = a at *
        generalize stepC f false B = b at *
        cases N with
        | false => simp
        | true =>
          cases B6 with
          | false => simp
          | true =>
            by_cases hT : T = 0
            · by_cases ha : a = 0
              · by_cases hb : b = 0
                · simp [hT, ha, hb]
                · simp [hT, ha, hb, k1, k2]
              · simp [hT, ha, k1]
            · simp [hT]
      · rw [if_neg h2] at hn ⊢
        rw [decide_eq_false h2, hn 10000 rfl]
        generalize (decide (0 ≤ l[i]!.fCost ∧ l[i]!.fCost ≤ 10000) && (if l[i]!.fDo = 4 then decide (0 ≤ l[i]!.fN ∧ l[i]!.fN ≤ 4096) else true)) = N
        generalize termC f.fVars false l[i]!.fTerm = T
        generalize l[i]!.fThen = A at k1 ⊢
        generalize l[i]!.fElse = B at k2 ⊢
        generalize stepC f false A = a at *
        generalize stepC f false B = b at *
        cases N with
        | false => simp
        | true =>
          cases B6 with
          | false => simp
          | true =>
            by_cases hT : T = 0
            · by_cases ha : a = 0
              · by_cases hb : b = 0
                · simp [hT, ha, hb]
                · simp [hT, ha, hb, k1, k2]
              · simp [hT, ha, k1]
            · simp [hT]
theorem m55_eq (f : Flat) (hv : VarsOk f.fVars) : ∀ (n : Nat) (l : List GStep) (top : Bool), SizeOf.sizeOf l < n → nSs l ≤ 1000 → m55 n f l top = some (stepC f top l)
 | 0, _, _, h, _ => by omega
 | n + 1, l, top, h, h2 => s55_eq (m55 n) f hv l (by have := nSs_len l; omega) (fun s hs => by have := nSs_mem hs; have := nS_eq s; omega) top (fun s hs => ⟨m55_eq f hv n _ _ (by have := sizeOf_then hs; omega) (by have := then_le hs; omega), m55_eq f hv n _ _ (by have := sizeOf_then hs; omega) (by have := then_le hs; omega)⟩)
theorem r55_eq (f : Flat) (hv : VarsOk f.fVars) (l : List GStep) (top : Bool) (h : nSs l ≤ 1000) : r55 f l top = some (stepC f top l) := lim_eq (SizeOf.sizeOf l + 1) fun n hn => m55_eq f hv n l top (by omega) h
theorem round112 (f : Flat) (hv : VarsOk f.fVars) (hl : f.fHatches.length ≤ 1000000) (i : Nat) (hi : i < f.fHatches.length) :
  (hatC f i f.fHatches[i]! = 0 → n99_0 ⟨f.fHatches, (f.fHatches.length : Int), (i : Int), f⟩ = some (some ⟨f.fHatches, (f.fHatches.length : Int), ((i + 1 : Nat) : Int), f⟩)) ∧ (hatC f i f.fHatches[i]! ≠ 0 → n99_0 ⟨f.fHatches, (f.fHatches.length : Int), (i : Int), f⟩ = some none) := by
 have hw := w1L hi hl
 have h2 := m168_eq (f.fHatches.take i) (by rw [List.length_take]; omega) f.fHatches[i]!
 unfold n99_0 hatC
 simp only [GTerm.eta, Hatch.eta, m165_eq, m163_eq, m169_eq f.fVars hv]
 grind
theorem m99_eq (f : Flat) (hv : VarsOk f.fVars) (hl : f.fHatches.length ≤ 1000000) : m99 f = some (firstC (hatC f) f.fHatches 0) := by
  obtain ⟨i, e1, hc⟩ := loopC (rnd := n99_0) f.fHatches (fun i => ⟨f.fHatches, (f.fHatches.length : Int), (i : Int), f⟩) (hatC f) (fun i hi => round112 f hv hl i hi) (by unfold n99_0; simp)
  have e1' : a99_0 ⟨f.fHatches, (f.fHatches.length : Int), 0, f⟩ = some ⟨f.fHatches, (f.fHatches.length : Int), (i : Int), f⟩ := e1
  unfold m99
  rw [e1']
  rcases hc with ⟨rfl, hc⟩ | ⟨hi, h0, hc⟩
  · simp_all
  · rw [hc]
    have h2 := m168_eq (f.fHatches.take i) (by rw [List.length_take]; omega) f.fHatches[i]!
    revert h0
    unfold hatC
    simp only [GTerm.eta, Hatch.eta, m165_eq, m163_eq, m169_eq f.fVars hv]
    grind
theorem round18 (f : Flat) (hv : VarsOk f.fVars) (hl : f.fHatches.length ≤ 1000000) (i : Nat) (hi : i < f.fHatches.length) :
  (hatC f i f.fHatches[i]! = 0 → n15_0 ⟨(i : Int), f⟩ = some (some ⟨((i + 1 : Nat) : Int), f⟩)) ∧ (hatC f i f.fHatches[i]! ≠ 0 → n15_0 ⟨(i : Int), f⟩ = some none) := by
 have hw := w1L hi hl
 obtain ⟨j, h2, h3⟩ := a15_1_eq f hl i (by omega) f.fHatches[i]!
 unfold n15_0 hatC
 simp only [Int.toNat_natCast, GTerm.eta, m53_eq, m52_eq, h2, m54_eq f.fVars hv]
 grind
theorem a15_0_eq (f : Flat) (hv : VarsOk f.fVars) (hl : f.fHatches.length ≤ 1000000) : ∃ i : Nat, a15_0 ⟨0, f⟩ = some ⟨(i : Int), f⟩ ∧ ((i = f.fHatches.length ∧ firstC (hatC f) f.fHatches 0 = 0) ∨ (i < f.fHatches.length ∧ hatC f i f.fHatches[i]! ≠ 0 ∧ firstC (hatC f) f.fHatches 0 = hatC f i f.fHatches[i]!)) :=
 loopC (rnd := n15_0) f.fHatches (fun i => ⟨(i : Int), f⟩) (hatC f) (fun i hi => round18 f hv hl i hi) (by unfold n15_0; simp)
theorem hat_nodes {f : Flat} {i : Nat} (hi : i < f.fHatches.length) : nTs ((f.fHatches.take i).map (·.fTerm)) + nT f.fHatches[i]!.fTerm ≤ nTs (f.fHatches.map (·.fTerm)) := by
  have h := nTs_take (f.fHatches.map (·.fTerm)) (i + 1)
  rw [← List.map_take, take_succL hi, List.map_append, nTs_app] at h
  assumption
theorem m50_eq (f : Flat) (h : nSs f.fBody + nTs (f.fHatches.map (·.fTerm)) ≤ 900) (hl : f.fHatches.length ≤ 1000000) : m50 f = some (sizesB f) := by
  unfold m50 sizesB
  by_cases h1 : 64 < (f.fVars.length : Int)
  · grind
  by_cases h2 : 8 < (f.fHatches.length : Int)
  · grind
  rw [decide_eq_false h1, decide_eq_false h2, decide_eq_true (show f.fVars.length ≤ 64 by omega), decide_eq_true (show f.fHatches.length ≤ 8 by omega)]
  dsimp only [cond_false, cond_true]
  have hb := nodS_le f.fBody
  rw [r103_eq f.fBody (by omega)]
  obtain ⟨i, b, e1, hI, hc⟩ := loopJ (rnd := n50_0) f.fHatches.length (fun i (b : Int) => ⟨b, (i : Int), f⟩) (fun i b => (0 ≤ b ∧ b ≤ nSs f.fBody + nTs ((f.fHatches.take i).map (·.fTerm))) ∧ ∀ j, j < i → dT f.fHatches[j]!.fTerm ≤ 12) (fun i _ => 12 < dT f.fHatches[i]!.fTerm) (fun i b hi hI => by
    have hn := hat_nodes hi
    have hw := w1L hi hl
    have k1 := r104_eq f.fHatches[i]!.fTerm (by omega)
    have k2 := r105_eq f.fHatches[i]!.fTerm (by omega)
    have hi1 : (i : Int) < (f.fHatches.length : Int) := by omega
    have hi0 : (0 : Int) ≤ (i : Int) := by omega
    by_cases hd : 12 < dT f.fHatches[i]!.fTerm
    · refine .inr ⟨?_, hd⟩
      unfold n50_0
      simp only [Int.toNat_natCast, GTerm.eta, k1, k2, hi1, hi0, decide_true, cond_true, and_self, if_true, hd]
    · refine .inl ⟨b + nT f.fHatches[i]!.fTerm, ?_, ⟨by omega, ?_⟩, fun j hj => ?_⟩
      · have hw2 : i64.wrap (b + (nT f.fHatches[i]!.fTerm : Int)) = b + nT f.fHatches[i]!.fTerm := wrap_id (by omega) (by omega)
        unfold n50_0
        simp only [Int.toNat_natCast, GTerm.eta, k1, k2, hi1, hi0, decide_true, cond_true, and_self, if_true, hd, decide_false, cond_false, hw, hw2]
      · rw [take_succL hi, List.map_append, nTs_app]
        simp only [List.map_cons, List.map_nil, nTs_cons]
        omega
      · rcases Nat.lt_succ_iff_lt_or_eq.1 hj with h | h
        · exact hI.2 j h
        · subst h; omega) (fun b _ => by unfold n50_0; simp) (b := nodS f.fBody) ⟨⟨by omega, by simp only [List.take_zero, List.map_nil, show nTs [] = 0 from rfl]; omega⟩, fun j hj => absurd hj (by omega)⟩
  have e1' : a50_0 ⟨nodS f.fBody, 0, f⟩ = some ⟨b, (i : Int), f⟩ := e1
  dsimp only
  rw [e1']
  dsimp only
  rcases hc with rfl | ⟨hi, hd⟩
  · rw [decide_eq_false (show ¬ ((f.fHatches.length : Int) < (f.fHatches.length : Int)) by omega), cond_false]
    have ha : f.fHatches.all (fun h => decide (dT h.fTerm ≤ 12)) = true := all_of fun j hj => by simpa using hI.2 j hj
    have hn := hI.1.2
    rw [List.take_length] at hn
    rw [ha, decide_eq_true (show b ≤ 1024 by omega), cond_true, r106_eq f.fBody (by omega), r107_eq f.fBody (by omega)]
    by_cases h5 : dSs f.fBody ≤ 12
    · cases tDeep f.fBody <;> simp [h5]
    · simp [h5]
  · have hn := hat_nodes hi
    have k1 := r104_eq f.fHatches[i]!.fTerm (by omega)
    have k2 := r105_eq f.fHatches[i]!.fTerm (by omega)
    have hi1 : (i : Int) < (f.fHatches.length : Int) := by omega
    have hi0 : (0 : Int) ≤ (i : Int) := by omega
    have ha : f.fHatches.all (fun h => decide (dT h.fTerm ≤ 12)) = false := not_all hi (by simpa using hd)
    simp only [Int.toNat_natCast, GTerm.eta, k1, k2, hi1, hi0, decide_true, cond_true, and_self, if_true, hd, ha, Bool.and_false, Bool.false_and]
theorem s95_eq (M : List GStep → Int → Measure → Option E95) (l : List GStep) (hM : ∀ s ∈ l, ∀ (d : Int) (b : Measure), 0 ≤ d → d ≤ 13 → 0 ≤ b.fNodes → (b.fNodes + nSs s.fThen ≤ 1000 → M s.fThen d b = some (msS d s.fThen b)) ∧ (b.fNodes + nSs s.fElse ≤ 1000 → M s.fElse d b = some (msS d s.fElse b))) (d : Int) (b : Measure) (h0 : 0 ≤ d) (hd : d ≤ 13) (h1 : 0 ≤ b.fNodes) (h2 : b.fNodes + nSs l ≤ 1000) : s95 M l d b = some (msS d l b) := by
  have hL := nSs_len l
  have hw1 : i64.wrap (d + 1) = d + 1 := wrap_id (by omega) (by omega)
  have hgo : ∀ (l : List GStep) (i : Nat) (b : Measure), goE (fun _ (b : Measure) (s : GStep) => if overM (incM d b) = true then (.inr (incM d b) : Measure ⊕ Measure) else .inl (msS (d + 1) s.fElse (msS (d + 1) s.fThen (msT s.fTerm 1 (incM d b))))) id id l i b = msS d l b := by
    intro l
    induction l with
    | nil => intro i b; rw [msS]; rfl
    | cons s l ih =>
      intro i b
      rw [msS]
      by_cases ho : overM (incM d b) = true
      · rw [if_pos ho, goE_inr (r := incM d b) (by rw [if_pos ho])]; rfl
      · rw [if_neg ho, goE_inl (b' := msS (d + 1) s.fElse (msS (d + 1) s.fThen (msT s.fTerm 1 (incM d b)))) (by rw [if_neg ho])]
        exact ih (i + 1) _
  have hm : ∀ (b : Measure) (x : Bool), -1000000 ≤ b.fNodes → b.fNodes ≤ 1000000 → x = (b.fDeep || decide (12 < d)) → m96 ⟨i64.wrap (b.fNodes + 1), x⟩ = (overM (incM d b), incM d b) := fun b x b1 b2 hx => by
    rw [m96_eq, wrap_id (by omega) (by omega), hx]
    rfl
  have hs : ∀ (i : Nat) (b : Measure), i < l.length → 0 ≤ b.fNodes → b.fNodes + nS l[i]! ≤ 1000 → overM (incM d b) = false → d ≤ 12 ∧ r97 l[i]!.fTerm 1 (incM d b) = some (msT l[i]!.fTerm 1 (incM d b)) ∧ M l[i]!.fThen (d + 1) (msT l[i]!.fTerm 1 (incM d b)) = some (msS (d + 1) l[i]!.fThen (msT l[i]!.fTerm 1 (incM d b))) ∧ M l[i]!.fElse (d + 1) (msS (d + 1) l[i]!.fThen (msT l[i]!.fTerm 1 (incM d b))) = some (msS (d + 1) l[i]!.fElse (msS (d + 1) l[i]!.fThen (msT l[i]!.fTerm 1 (incM d b)))) ∧ 0 ≤ (msS (d + 1) l[i]!.fElse (msS (d + 1) l[i]!.fThen (msT l[i]!.fTerm 1 (incM d b)))).fNodes ∧ (msS (d + 1) l[i]!.fElse (msS (d + 1) l[i]!.fThen (msT l[i]!.fTerm 1 (incM d b)))).fNodes ≤ b.fNodes + nS l[i]! := fun i b hi b1 b2 ho => by
    have hd2 : d ≤ 12 := by unfold overM incM at ho; grind
    have hN := nS_eq l[i]!
    have hp : (incM d b).fNodes = b.fNodes + 1 := rfl
    obtain ⟨a1, a2, a3⟩ := msT_ok l[i]!.fTerm 1 (incM d b) (by omega) (by omega) (by omega)
    obtain ⟨c1, c2, c3⟩ := msS_ok (d + 1) l[i]!.fThen (msT l[i]!.fTerm 1 (incM d b)) (by omega) (by omega) (by omega) (by omega)
    obtain ⟨g1, g2, g3⟩ := msS_ok (d + 1) l[i]!.fElse (msS (d + 1) l[i]!.fThen (msT l[i]!.fTerm 1 (incM d b))) (by omega) (by omega) (by omega) (by omega)
    exact ⟨hd2, r97_eq _ 1 _ (by omega) (by omega) (by omega) (by omega), (hM _ (get_memL hi) (d + 1) _ (by omega) (by omega) (by omega)).1 (by omega), (hM _ (get_memL hi) (d + 1) _ (by omega) (by omega) (by omega)).2 (by omega), by omega, by omega⟩
  obtain ⟨i, v, e1, hI, hc⟩ := loopV (rnd := n95_0 M) l (fun i (b : Measure) => ⟨d, l, (l.length : Int), (i : Int), b⟩) (fun _ (b : Measure) (s : GStep) => if overM (incM d b) = true then (.inr (incM d b) : Measure ⊕ Measure) else .inl (msS (d + 1) s.fElse (msS (d + 1) s.fThen (msT s.fTerm 1 (incM d b))))) id id (fun i x => 0 ≤ x.fNodes ∧ x.fNodes ≤ b.fNodes + nSs (l.take i)) (fun i x hi hx => by
      have hn := nSs_step hi
      have hw := w1L hi (by omega)
      have hi1 : (i : Int) < (l.length : Int) := by omega
      have hi0 : (0 : Int) ≤ (i : Int) := by omega
      have hmx := hm x
      cases ho : overM (incM d x) with
      | true =>
        refine ⟨fun b' hb' => by simp at hb', fun r hr => ?_⟩
        unfold n95_0
        dsimp only
        simp only [hi1]
        cases hb : x.fDeep with
        | true => rw [hmx true (by omega) (by omega) (by rw [hb]; rfl), ho]; rfl
        | false => rw [hmx (decide (12 < d)) (by omega) (by omega) (by rw [hb]; rfl), ho]; rfl
      | false =>
        obtain ⟨q0, q1, q2, q3, q4, q5⟩ := hs i x hi hx.1 (by omega) ho
        refine ⟨fun b' hb' => ?_, fun r hr => by simp at hr⟩
        have hb' : msS (d + 1) l[i]!.fElse (msS (d + 1) l[i]!.fThen (msT l[i]!.fTerm 1 (incM d x))) = b' := by simpa using hb'
        subst hb'
        refine ⟨?_, ⟨q4, by rw [take_succL hi, nSs_snoc]; omega⟩⟩
        unfold n95_0
        dsimp only
        simp only [Int.toNat_natCast, hi1, hi0, decide_true, and_self, if_true]
        cases hb : x.fDeep with
        | true => rw [hmx true (by omega) (by omega) (by rw [hb]; rfl), ho]; simp only [GTerm.eta, q1, q2, q3, hw1, hw, cond_true, cond_false]
        | false => rw [hmx (decide (12 < d)) (by omega) (by omega) (by rw [hb]; rfl), ho]; simp only [GTerm.eta, q1, q2, q3, hw1, hw, cond_true, cond_false]) (fun x _ => by unfold n95_0; simp) (b := b) ⟨h1, by simp [nSs]⟩
  have e1' : a95_0 M ⟨d, l, (l.length : Int), 0, b⟩ = some ⟨d, l, (l.length : Int), (i : Int), v⟩ := e1
  rw [hgo] at hc
  unfold s95
  rw [e1']
  dsimp only
  rcases hc with ⟨rfl, hc⟩ | ⟨hi, r, hr, hc⟩
  · rw [hc, decide_eq_false (by omega)]
    rfl
  · have hn := nSs_step hi
    have hi1 : (i : Int) < (l.length : Int) := by omega
    have hi0 : (0 : Int) ≤ (i : Int) := by omega
    have ho : overM (incM d v) = true := by
      by_cases ho : overM (incM d v) = true
      · exact ho
      · rw [if_neg ho] at hr; cases hr
    rw [if_pos ho] at hr
    cases hr
    rw [hc]
    have hmx := hm v
    simp only [Int.toNat_natCast, hi1, hi0, decide_true, cond_true, and_self, if_true]
    cases hb : v.fDeep with
    | true => rw [hmx true (by omega) (by omega) (by rw [hb]; rfl), ho]; rfl
    | false => rw [hmx (decide (12 < d)) (by omega) (by omega) (by rw [hb]; rfl), ho]; rfl
theorem m95_eq : ∀ (n : Nat) (l : List GStep) (d : Int) (b : Measure), SizeOf.sizeOf l < n → 0 ≤ d → d ≤ 13 → 0 ≤ b.fNodes → b.fNodes + nSs l ≤ 1000 → m95 n l d b = some (msS d l b)
 | 0, _, _, _, h, _, _, _, _ => by omega
 | n + 1, l, d, b, h, h0, hd, h1, h2 => s95_eq (m95 n) l (fun s hs d b a1 a2 a3 => ⟨fun a4 => m95_eq n _ d b (by have := sizeOf_then hs; omega) a1 a2 a3 a4, fun a4 => m95_eq n _ d b (by have := sizeOf_then hs; omega) a1 a2 a3 a4⟩) d b h0 hd h1 h2
theorem r95_eq (l : List GStep) (d : Int) (b : Measure) (h0 : 0 ≤ d) (hd : d ≤ 13) (h1 : 0 ≤ b.fNodes) (h2 : b.fNodes + nSs l ≤ 1000) : r95 l d b = some (msS d l b) := lim_eq (SizeOf.sizeOf l + 1) fun n hn => m95_eq n l d b (by omega) h0 hd h1 h2
theorem sizes56 (f : Flat) (h : nSs f.fBody + nTs (f.fHatches.map (·.fTerm)) ≤ 900) (hl : f.fHatches.length ≤ 1000000) : ∃ r q, r95 f.fBody 1 ⟨0, false⟩ = some r ∧ a48_0 ⟨f.fHatches, (f.fHatches.length : Int), 0, f, r⟩ = some ⟨f.fHatches, (f.fHatches.length : Int), (f.fHatches.length : Int), f, q⟩ ∧ overM q = !(f.fHatches.all (fun h => decide (dT h.fTerm ≤ 12)) && decide (dSs f.fBody ≤ 12) && !tDeep f.fBody) := by
  obtain ⟨p1, p2, p3⟩ := msS_ok 1 f.fBody ⟨0, false⟩ (by omega) (by omega) (Int.le_refl 0) (by show (0 : Int) + _ ≤ _; omega)
  have p2 : 0 ≤ (msS 1 f.fBody ⟨0, false⟩).fNodes := p2
  have p3 : (msS 1 f.fBody ⟨0, false⟩).fNodes ≤ 0 + nSs f.fBody := p3
  refine ⟨msS 1 f.fBody ⟨0, false⟩, ?_⟩
  have p4 := r95_eq f.fBody 1 ⟨0, false⟩ (by omega) (by omega) (Int.le_refl 0) (by show (0 : Int) + _ ≤ _; omega)
  generalize msS 1 f.fBody ⟨0, false⟩ = r at *
  obtain ⟨q, e1, hI⟩ := loopI (rnd := n48_0) f.fHatches.length (fun i (q : Measure) => ⟨f.fHatches, (f.fHatches.length : Int), (i : Int), f, q⟩) (fun i q => q.fDeep = (r.fDeep || (f.fHatches.take i).any fun h => decide (12 < dT h.fTerm)) ∧ 0 ≤ q.fNodes ∧ q.fNodes ≤ r.fNodes + nTs ((f.fHatches.take i).map (·.fTerm))) (fun i q hi hI => by
    have hn := hat_nodes hi
    have hw := w1L hi hl
    have hi1 : (i : Int) < (f.fHatches.length : Int) := by omega
    have hi0 : (0 : Int) ≤ (i : Int) := by omega
    have hn2 : nTs ((f.fHatches.take (i + 1)).map (·.fTerm)) = nTs ((f.fHatches.take i).map (·.fTerm)) + nT f.fHatches[i]!.fTerm := by
      rw [take_succL hi, List.map_append, nTs_app]
      rfl
    have ha : ((f.fHatches.take (i + 1)).any fun h => decide (12 < dT h.fTerm)) = (((f.fHatches.take i).any fun h => decide (12 < dT h.fTerm)) || decide (12 < dT f.fHatches[i]!.fTerm)) := by
      rw [take_succL hi, List.any_append, List.any_cons, List.any_nil, Bool.or_false]
    rw [ha, hn2]
    obtain ⟨q1, q2, q3⟩ := hI
    cases ho : overM q with
    | true =>
      refine ⟨q, ?_, ?_, q2, by omega⟩
      · unfold n48_0
        dsimp only
        simp only [hi1, hi0, decide_true, cond_true, cond_false, and_self, if_true, m96_eq, ho, hw]
      · unfold overM at ho
        rw [decide_eq_false (show ¬ 1024 < q.fNodes by omega), Bool.or_false] at ho
        rw [← Bool.or_assoc, ← q1, ho]
        rfl
    | false =>
      obtain ⟨c1, c2, c3⟩ := msT_ok f.fHatches[i]!.fTerm 1 q (by omega) q2 (by omega)
      have k := r97_eq f.fHatches[i]!.fTerm 1 q (by omega) (by omega) q2 (by omega)
      refine ⟨msT f.fHatches[i]!.fTerm 1 q, ?_, ?_, by omega, by omega⟩
      · unfold n48_0
        dsimp only
        simp only [Int.toNat_natCast, GTerm.eta, hi1, hi0, decide_true, cond_true, cond_false, and_self, if_true, m96_eq, ho, hw, k]
      · rw [c1, q1, Bool.or_assoc]
        rw [show decide (12 < 1 - 1 + dT f.fHatches[i]!.fTerm) = decide (12 < dT f.fHatches[i]!.fTerm) from decide_eq_decide.2 (by omega)]) (fun q _ => by unfold n48_0; simp) (b := r) ⟨by simp, p2, by simp [nTs]⟩
  have e1' : a48_0 ⟨f.fHatches, (f.fHatches.length : Int), 0, f, r⟩ = some ⟨f.fHatches, (f.fHatches.length : Int), (f.fHatches.length : Int), f, q⟩ := e1
  refine ⟨q, p4, e1', ?_⟩
  rw [List.take_length] at hI
  obtain ⟨q1, q2, q3⟩ := hI
  unfold overM
  rw [decide_eq_false (show ¬ 1024 < q.fNodes by omega), Bool.or_false, q1, p1]
  have e2 : (f.fHatches.any fun h => decide (12 < dT h.fTerm)) = !(f.fHatches.all fun h => decide (dT h.fTerm ≤ 12)) := by
    rw [List.not_all_eq_any_not]
    congr 1
    funext h
    by_cases hd : dT h.fTerm ≤ 12
    · simp [hd]
    · simp [hd]; omega
  have e3 : decide (12 < 1 - 1 + dSs f.fBody) = !decide (dSs f.fBody ≤ 12) := by
    by_cases hd : dSs f.fBody ≤ 12
    · simp [hd]
    · simp [hd]; omega
  rw [e2, e3]
  generalize (f.fHatches.all fun h => decide (dT h.fTerm ≤ 12)) = x
  generalize decide (dSs f.fBody ≤ 12) = y
  generalize tDeep f.fBody = z
  cases x <;> cases y <;> cases z <;> rfl
def SOk : List GStep → Prop
 | [] => True
 | s :: l => (0 ≤ s.fCost ∧ s.fCost ≤ 67108864) ∧ (s.fDo = 4 → 0 ≤ s.fN ∧ s.fN ≤ 4096) ∧ (s.fDo ≠ 3 → s.fDo ≠ 4 → s.fThen = []) ∧ (s.fDo ≠ 3 → s.fElse = []) ∧ SOk s.fThen ∧ SOk s.fElse ∧ SOk l
termination_by l => SizeOf.sizeOf l
decreasing_by
  · exact (sizeOf_then (List.mem_cons_self ..)).1
  · exact (sizeOf_then (List.mem_cons_self ..)).2
  · exact size_tail _ _
theorem num_bd {s : GStep} (h : numB s = true) : (0 ≤ s.fCost ∧ s.fCost ≤ 67108864) ∧ (s.fDo = 4 → 0 ≤ s.fN ∧ s.fN ≤ 4096) := by
 unfold numB at h
 grind
theorem SOk_of (f : Flat) : ∀ (n : Nat) (l : List GStep) (top : Bool), SizeOf.sizeOf l < n → stepC f top l = 0 → SOk l
  | 0, _, _, h, _ => by omega
  | n + 1, [], top, h, hc => by rw [SOk]; trivial
  | n + 1, s :: l, top, h, hc => by
    rw [stepC] at hc
    have hz := sizeOf_then (l := s :: l) (List.mem_cons_self ..)
    have hz2 := size_tail s l
    by_cases h1 : ownC f (top && l.isEmpty) s ≠ 0
    · omega
    rw [if_neg h1] at hc
    by_cases h2 : stepC f false s.fThen ≠ 0
    · omega
    rw [if_neg h2] at hc
    by_cases h3 : stepC f false s.fElse ≠ 0
    · omega
    rw [if_neg h3] at hc
    have q1 := SOk_of f n s.fThen false (by omega) (by omega)
    have q2 := SOk_of f n s.fElse false (by omega) (by omega)
    have q3 := SOk_of f n l top (by omega) hc
    unfold ownC at h1
    cases hS : shapeB f s (top && l.isEmpty) with
    | false => rw [hS] at h1; simp at h1
    | true =>
      rw [hS] at h1
      cases hN : numB s with
      | false => rw [hN] at h1; simp at h1
      | true =>
        obtain ⟨n1, n2⟩ := num_bd hN
        obtain ⟨b1, b2, b3, b4, b5⟩ := shape_bounds hS
        rw [SOk]
        simp_all
def uS1 (s : GStep) (a b : Int × Int × Int) : Int × Int × Int :=
 if s.fDo = 1 then (1, 1, s.fCost)
 else if s.fDo = 3 then (1 + max a.1 b.1, max a.2.1 b.2.1, s.fCost + max a.2.2 b.2.2)
 else if s.fDo = 4 then (1 + s.fN * (1 + a.1), s.fN * a.2.1, s.fN * (s.fCost + a.2.2))
 else (1, 0, s.fCost)
def add3 (a b : Int × Int × Int) : Int × Int × Int := (a.1 + b.1, a.2.1 + b.2.1, a.2.2 + b.2.2)
theorem uSs_cons (s : GStep) (l : List GStep) : uSs (s :: l) = add3 (uS1 s (uSs s.fThen) (uSs s.fElse)) (uSs l) := by
 rw [uSs]
 unfold uS1 add3
 grind
theorem uSs_snoc (l : List GStep) (s : GStep) : uSs (l ++ [s]) = add3 (uSs l) (uS1 s (uSs s.fThen) (uSs s.fElse)) := by
 have h0 : uSs [] = (0, 0, 0) := by rw [uSs]
 induction l with
 | nil => rw [List.nil_append, uSs_cons, h0]; unfold add3; simp
 | cons a l ih =>
  rw [List.cons_append, uSs_cons, uSs_cons, ih]
  unfold add3
  grind
def cut3 (c : Int × Int × Int) (a : Int × Int × Int) : Int × Int × Int := (min a.1 c.1, min a.2.1 c.2.1, min a.2.2 c.2.2)
theorem min_mul {n x c k : Int} (hn : 0 ≤ n) (hk : 0 ≤ k) (hx : 0 ≤ x) (hc : 0 ≤ c) : min (n * (k + min x c)) c = min (n * (k + x)) c := by
  by_cases h : x ≤ c
  · grind
  · rw [Int.min_eq_right (show c ≤ x by omega)]
    by_cases h0 : n = 0
    · simp_all
    · have e1 : 1 * (k + c) ≤ n * (k + c) := Int.mul_le_mul_of_nonneg_right (by omega) (by omega)
      have e2 : 1 * (k + x) ≤ n * (k + x) := Int.mul_le_mul_of_nonneg_right (by omega) (by omega)
      omega
end Go.Proofs.YtghilkcphindjaaGreat
end
