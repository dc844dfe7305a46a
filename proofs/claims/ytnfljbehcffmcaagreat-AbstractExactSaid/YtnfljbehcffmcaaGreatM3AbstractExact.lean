/- Merged: Iz, Ga, Pl, Pfew, Pl2, Pd, Gb, Gd. -/
import Derived.Test.YtnfljbehcffmcaaGreatM2AbstractExact
set_option linter.unusedSectionVars false
set_option linter.unusedVariables false
set_option linter.unusedSimpArgs false
noncomputable section
namespace Go.Iv
variable [U : Uni] [L : UniL]
open Go Go.RowKit
section
variable {β γ δ : Type}
structure Rq (β : Type) where
 f : AV → Option β
 c : β → AV
 ok : PN f c
structure Rl (γ : Type) where
 q : List AV → Option γ
 c : γ → List AV
 ok : PkN q c
def qi (k : IntKind) : Rq Int := ⟨asI k, AVq.n k, .i k⟩
def qb : Rq Bool := ⟨asB, AVq.b, .b⟩
def qs : Rq ByteArray := ⟨asS, AVq.s, .s⟩
def ql (t : Nat) : Rq (List (U.Dat t)) := ⟨asL t, AVq.sl t, .l t⟩
def qg (t : Nat) : Rq (U.Dat t) := ⟨asGc t, fun x => .agg (U.cells t x), .g t⟩
def qp (i o : Nat) : Rq Unit := ⟨asP i o, fun _ => .ptr i o, .p i o⟩
def qo (i : Nat) : Rq Unit := ⟨asO i, fun _ => .own i, .o i⟩
def qn : Rq Unit := ⟨asNs, fun _ => .lit (.slice none 0 0), .ns⟩
def qf (k : Nat) (l : Rl γ) : Rq γ := ⟨asFf k l.q, fun x => .fn (.func k) (l.c x), .ff k l.ok⟩
def qr (l : Rl γ) : Rq γ := ⟨asFp l.q, fun x => .fp (l.c x), .fp l.ok⟩
def ln : Rl Unit := ⟨pkN, fun _ => [], .nil⟩
def lc (a : Rq β) (l : Rl γ) : Rl (β × γ) := ⟨pkC a.f l.q, fun x => a.c x.1 :: l.c x.2, .cons a.ok l.ok⟩
def lg (t : Nat) : Rl (U.Dat t) := ⟨asCs t, fun x => U.cells t x, PkN.parse t⟩
structure Re (γ : Type) where
 q : ET → Option γ
 d : γ → Env
 ok : SlOk q d
def en : Re Unit := ⟨slN, fun _ => [], .nil⟩
def ec (t : Nat) (a : Rq β) (l : Re γ) : Re (β × γ) := ⟨slC t a.f l.q, fun x => (t, a.c x.1) :: l.d x.2, .cons a.ok l.ok⟩
structure Rs (γ : Type) where
 q : IRs → Option γ
 d : γ → IRs
 ok : RsOk q d
def sn : Rs Unit := ⟨rsN, fun _ => [], .nil⟩
def sr (i t : Nat) (l : Rs γ) : Rs (List (U.Dat t) × γ) := ⟨rsR i t l.q, fun x => (i, .row t x.1) :: l.d x.2, .row l.ok⟩
def sb (i t : Nat) (a : Rl β) (l : Rs γ) : Rs (β × γ) := ⟨rsN2 i t a.q l.q, fun x => (i, .box t (a.c x.1)) :: l.d x.2, .boxN a.ok l.ok⟩
structure Td (n0 : Nat) (γ : Type) where
 rd : St → Option γ
 pat : γ → St
 ok : ∀ n, RdOk n0 n rd pat
def Td.r (n0 m : Nat) (e : Re β) (s : Rs δ) (mk : β × δ → γ) (un : γ → β × δ) (h : ∀ z, un (mk z) = z) : Td n0 γ :=
 ⟨rdM mk (stR m e.q s.q), fun x => stP m e.d s.d (un x), fun _ => (stR_ok e.ok s.ok).m mk fun z => by rw [h]⟩
def Td.c {n0 : Nat} (dr ts : List Nat) (d : Td n0 γ) : Td n0 γ := ⟨rdC n0 dr ts d.rd, d.pat, fun n => rdC_ok (d.ok n)⟩
def Td.t {n0 : Nat} {f : St → St} (h : TurnOk f) (d : Td n0 γ) : Td n0 γ := ⟨rdF f d.rd, d.pat, fun n => rdF_ok h (d.ok n)⟩
def Td.lp {n0 : Nat} (d : Td n0 γ) (a : γ → Option γ) (b : An) : An := .lp γ d.rd d.pat a b
end
def outY (P : Program) (f n0 : Nat) (s : St) : Out := match (match outOf P f s with
  | some ds => some (Out.mk (resA ds) (keepR s.R n0 (resA ds)) s.nx)
  | none => none) with
 | some o => o
 | none => ⟨.tup [], [], 0⟩
theorem ob_nil {α : Type _} {Q : α → Prop} : ∀ p ∈ ([] : List α), Q p := fun p h => by cases h
theorem ob_cons {α : Type _} {Q : α → Prop} {a : α} {l : List α} (h : Q a) (t : ∀ p ∈ l, Q p) : ∀ p ∈ a :: l, Q p := fun p hp => (List.mem_cons.1 hp).elim (fun e => e ▸ h) (t p)
section
variable {P : Program} {F : Orc} {f n0 : Nat} {γ δ β : Type}
def HY (P : Program) (f n0 : Nat) (a : Rl γ) (s : Rs δ) (d : Td n0 β) (t : γ × δ → Option β) : Prop := ∀ g b, t g = some b → FnY P f (a.c g.1) (s.d g.2) n0 (outY P f n0 (d.pat b))
def HL (P : Program) (f : Nat) (a : Rl γ) (d : Td 0 β) (t : γ → Option β) : Prop := ∀ g b, t g = some b → FnY P f (a.c g) [] 0 (outY P f 0 (d.pat b))
theorem hy_of (hF : OrcG P F) {an : An} (fa : FnAn P F n0 300 f an) {a : Rl γ} {s : Rs δ} {d : Td n0 β} {t : γ × δ → Option β} (ho : ∀ p, (match outOf P f (d.pat p) with
   | some ds => some (Out.mk (resA ds) (keepR (d.pat p).R n0 (resA ds)) (d.pat p).nx)
   | none => none) = some (outY P f n0 (d.pat p)))
  (h1 : ∀ g, (a.c g).all (idsC (fun i => Nat.blt i n0) 4) = true) (h2 : ∀ g, (s.d g).all (fun q => Nat.blt q.1 n0 && match q.2 with
  | .box _ cs => cs.all (idsC (fun i => Nat.blt i n0) 4)
  | .row _ _ => true) = true) (c : ∀ g, callR P F 300 an f (a.c g.1) (s.d g.2) n0 d.rd = t g) : HY P f n0 a s d t :=
 fun g b hb => (fnY_of (p := b) hF fa d.ok ho (ltd_of (h1 g.1)) (rltd_of (h2 g.2)) ((c g).trans hb)).2
theorem hl_of (hF : OrcG P F) {an : An} (fa : FnAn P F 0 300 f an) {a : Rl γ} {d : Td 0 β} {t : γ → Option β} (ho : ∀ p, (match outOf P f (d.pat p) with
   | some ds => some (Out.mk (resA ds) (keepR (d.pat p).R 0 (resA ds)) (d.pat p).nx)
   | none => none) = some (outY P f 0 (d.pat p)))
  (h1 : ∀ g, (a.c g).all (idsC (fun i => Nat.blt i 0) 4) = true) (c : ∀ g, callR P F 300 an f (a.c g) [] 0 d.rd = t g) : HL P f a d t :=
 fun g b hb => (fnY_of (p := b) hF fa d.ok ho (ltd_of (h1 g)) (rltd_of rfl) ((c g).trans hb)).2
def eY (P : Program) (f n0 : Nat) (a : Rl γ) (s : Rs δ) (d : Td n0 β) (t : γ × δ → Option β) (F : Orc) : Orc := orY f n0 (qyR a.q s.q) t (fun x => outY P f n0 (d.pat x)) F
def eZ (P : Program) (f : Nat) (a : Rl γ) (d : Td 0 β) (t : γ → Option β) (F : Orc) : Orc := orY f 0 (qy0 a.q) t (fun x => outY P f 0 (d.pat x)) F
def eL (P : Program) (f : Nat) (lb : Bool) (a : Rl γ) (d : Td 0 β) (t : γ → Option β) (F : Orc) : Orc := orL f lb a.q t (fun x => outY P f 0 (d.pat x)) F
theorem eY_ok {a : Rl γ} {s : Rs δ} {d : Td n0 β} {t : γ × δ → Option β} (h : HY P f n0 a s d t) (hf : fnOk P f) (h3 : ∀ b, (outY P f n0 (d.pat b)).okB n0 = true) (hF : OrcG P F) : OrcG P (eY P f n0 a s d t F) :=
 orY_g hF hf (qyR_ok a.ok s.ok) h3 h
theorem eZ_ok {a : Rl γ} {d : Td 0 β} {t : γ → Option β} (h : HL P f a d t) (hf : fnOk P f) (h3 : ∀ b, (outY P f 0 (d.pat b)).okB 0 = true) (hF : OrcG P F) : OrcG P (eZ P f a d t F) :=
 orY_g hF hf (qy0_ok a.ok) h3 h
theorem eL_ok {lb : Bool} {sc : Nat → Bool} (hsc : ∀ t, sc t = true → ∀ x, ClL (U.cells t x)) {a : Rl γ} {d : Td 0 β} {t : γ → Option β} (h : HL P f a d t) (hf : fnOk P f) (h3 : ∀ b, (outY P f 0 (d.pat b)).okB 0 = true) (h4 : ∀ b, (outY P f 0 (d.pat b)).scB sc = true) (hF : OrcG P F) : OrcG P (eL P f lb a d t F) :=
 orL_g hF hsc hf a.ok h3 h4 h
end
end Go.Iv
end
noncomputable section
set_option maxRecDepth 100000
namespace Go.Proofs.YtnfljbehcffmcaaGreat
open Go Go.Iv
open Go.IntKind (i64)
abbrev E117 : Type := Int
def d117 : Td 0 E117 := .c [] [4] (.r 0 0 (ec 4 (qi .i64) en) sn (fun z => z.1.1) (fun x => ((x, ()), (()))) fun _ => rfl)
def A117 := (lc (qg 137) (lc (qi .i64) ln))
def x117 (M : GTerm → Int → Option E117) : Orc → Orc := eL Tryz.prog 117 false A117 d117 (fun g => M g.1 g.2.1)
def H117 (M : GTerm → Int → Option E117) : Prop := HL Tryz.prog 117 A117 d117 (fun g => M g.1 g.2.1)
theorem x117_ok {M : GTerm → Int → Option E117} (hM : H117 M) {F : Orc} (h : OrcG Tryz.prog F) : OrcG Tryz.prog (x117 M F) := eL_ok (sc := scU) scU_ok hM ⟨_, Tryz.func117, by kernel_rfl, by kernel_rfl⟩ (fun _ => by kernel_rfl) (fun _ => by kernel_rfl) h
def F117 (M117 : GTerm → Int → Option E117) : Orc := (x117 M117 or0)
theorem F117_ok {M117} (h117 : H117 M117) : OrcG Tryz.prog (F117 M117) := (x117_ok h117 or0_g)
structure L117_0 where
 t1 : Int
 t5 : Int
 b0 : GTerm
def d117_0 : Td 0 L117_0 := .c [] [1, 2, 5] (.r 0 1 (ec 1 (qi .i64) (ec 2 (qp 0 0) (ec 5 (qi .i64) en))) (sb 0 137 (lg 137) sn) (fun z => ⟨z.1.1, z.1.2.2.1, z.2.1⟩) (fun x => ((x.t1, (), x.t5, ()), (x.b0, ()))) fun _ => rfl)
def n117_0 (M117 : GTerm → Int → Option E117) (p : L117_0) : Option (Option L117_0) :=
 match bif decide (p.t5 < (↑p.b0.fKids.length : Int)) then some (decide (0 ≤ p.t1)) else some (false) with | none => none | some r1 => bif r1 then if (0 : Int) ≤ p.t5 ∧ p.t5 < (↑p.b0.fKids.length : Int) then match M117 (GTerm.mk p.b0.fKids[p.t5.toNat]!.fOp p.b0.fKids[p.t5.toNat]!.fN p.b0.fKids[p.t5.toNat]!.fKids) p.t1 with | none => none | some r2 => some (some (L117_0.mk r2 (i64.wrap (p.t5 + 1)) (GTerm.mk p.b0.fOp p.b0.fN p.b0.fKids))) else none else some (none)
def g117_0 (M117 : GTerm → Int → Option E117) : An := (.two (.two (.rb [] 16) .no) .no)
theorem q117_0 (M117 : GTerm → Int → Option E117) (p : L117_0) : execA Tryz.prog (F117 M117) Tryz.f117.ntmps 300 (loopAt Tryz.f117 0) (g117_0 M117) (Option L117_0) (d117_0.pat p) (kOn d117_0.rd) = n117_0 M117 p := by kernel_rfl
def a117_0 (M117 : GTerm → Int → Option E117) : L117_0 → Option L117_0 := advG (n117_0 M117)
def an117 (M117 : GTerm → Int → Option E117) : An := (.two .no (.two .no (.two (.two .no (d117_0.lp (a117_0 M117) (g117_0 M117))) .no)))
theorem pu117 {M117} : ∀ f ∈ ([] : List Nat), PureF (F117 M117) f := ob_nil
theorem fa117 (M117 : GTerm → Int → Option E117) : FnAn Tryz.prog (F117 M117) 0 300 117 (an117 M117) := fnAn_of (l := [(loopAt Tryz.f117 0, (d117_0.lp (a117_0 M117) (g117_0 M117))), (.skip, (.rb [] 16))]) Tryz.func117 (bodyOf_eq (by kernel_rfl)) (by kernel_rfl) (ob_cons ⟨d117_0.ok _, advG_ok (q117_0 M117)⟩ (ob_cons pu117 ob_nil))
def s117 (M117 : GTerm → Int → Option E117) (a0 : GTerm) (a1 : Int) : Option E117 :=
 match a117_0 M117 (L117_0.mk (i64.wrap (a1 - 1)) (0) (GTerm.mk a0.fOp a0.fN a0.fKids)) with | none => none | some r3 => match bif decide (r3.t5 < (↑r3.b0.fKids.length : Int)) then some (decide (0 ≤ r3.t1)) else some (false) with | none => none | some r4 => bif r4 then if (0 : Int) ≤ r3.t5 ∧ r3.t5 < (↑r3.b0.fKids.length : Int) then match M117 (GTerm.mk r3.b0.fKids[r3.t5.toNat]!.fOp r3.b0.fKids[r3.t5.toNat]!.fN r3.b0.fKids[r3.t5.toNat]!.fKids) r3.t1 with | none => none | some r5 => none else none else some (r3.t1)
theorem c117 (M117 : GTerm → Int → Option E117) (a0 : GTerm) (a1 : Int) : callR Tryz.prog (F117 M117) 300 (an117 M117) 117 (A117.c (a0, a1, ())) [] 0 d117.rd = s117 M117 a0 a1 := by kernel_rfl
def mm117 : Nat → (GTerm → Int → Option E117)
 | 0 => (fun _ _ => none)
 | n + 1 => (s117 (mm117 n))
def m117 (n : Nat) : GTerm → Int → Option E117 := (mm117 n)
theorem mm117_ok : ∀ n, H117 (m117 n)
 | 0 => fun _ _ h => (by cases h)
 | n + 1 => by
  have ih := mm117_ok n
  have i117 := ih
  exact (hl_of (F117_ok i117) (fa117 (m117 n)) (fun _ => by kernel_rfl) (fun _ => by kernel_rfl) fun g => c117 (m117 n) g.1 g.2.1)
def r117 : GTerm → Int → Option E117 := fun a0 a1 => lim (fun n => m117 n a0 a1)
theorem r117_ok : H117 r117 := fun g b h => by
 obtain ⟨n, hn⟩ := lim_some (show lim (fun n => m117 n g.1 g.2.1) = some b from h)
 exact (mm117_ok n) g b hn
def e117 (F : Orc) : Orc := x117 r117 F
theorem e117_ok {F : Orc} (h : OrcG Tryz.prog F) : OrcG Tryz.prog (e117 F) := x117_ok r117_ok h
abbrev E116 : Type := Int
def d116 : Td 0 E116 := .c [] [4] (.r 0 0 (ec 4 (qi .i64) en) sn (fun z => z.1.1) (fun x => ((x, ()), (()))) fun _ => rfl)
def A116 := (lc (ql 166) (lc (qi .i64) ln))
def x116 (M : (List GStep) → Int → Option E116) : Orc → Orc := eL Tryz.prog 116 false A116 d116 (fun g => M g.1 g.2.1)
def H116 (M : (List GStep) → Int → Option E116) : Prop := HL Tryz.prog 116 A116 d116 (fun g => M g.1 g.2.1)
theorem x116_ok {M : (List GStep) → Int → Option E116} (hM : H116 M) {F : Orc} (h : OrcG Tryz.prog F) : OrcG Tryz.prog (x116 M F) := eL_ok (sc := scU) scU_ok hM ⟨_, Tryz.func116, by kernel_rfl, by kernel_rfl⟩ (fun _ => by kernel_rfl) (fun _ => by kernel_rfl) h
def F116 (M116 : (List GStep) → Int → Option E116) : Orc := (e117 (x116 M116 or0))
theorem F116_ok {M116} (h116 : H116 M116) : OrcG Tryz.prog (F116 M116) := (e117_ok (x116_ok h116 or0_g))
structure L116_0 where
 t0 : List GStep
 t1 : Int
 t5 : Int
def d116_0 : Td 0 L116_0 := .c [] [0, 1, 5] (.r 0 0 (ec 0 (ql 166) (ec 1 (qi .i64) (ec 5 (qi .i64) en))) sn (fun z => ⟨z.1.1, z.1.2.1, z.1.2.2.1⟩) (fun x => ((x.t0, x.t1, x.t5, ()), (()))) fun _ => rfl)
def n116_0 (M116 : (List GStep) → Int → Option E116) (p : L116_0) : Option (Option L116_0) :=
 match bif decide (p.t5 < (↑p.t0.length : Int)) then some (decide (0 ≤ p.t1)) else some (false) with | none => none | some r1 => bif r1 then if (0 : Int) ≤ p.t5 ∧ p.t5 < (↑p.t0.length : Int) then match r117 (GTerm.mk p.t0[p.t5.toNat]!.fTerm.fOp p.t0[p.t5.toNat]!.fTerm.fN p.t0[p.t5.toNat]!.fTerm.fKids) (i64.wrap (p.t1 - 1)) with | none => none | some r2 => if (0 : Int) ≤ p.t5 ∧ p.t5 < (↑p.t0.length : Int) then bif decide (r2 < (↑p.t0[p.t5.toNat]!.fBounds.length : Int)) then some (none) else if (0 : Int) ≤ p.t5 ∧ p.t5 < (↑p.t0.length : Int) then if (0 : Int) ≤ p.t5 ∧ p.t5 < (↑p.t0.length : Int) then if (0 : Int) ≤ p.t5 ∧ p.t5 < (↑p.t0.length : Int) then match M116 p.t0[p.t5.toNat]!.fThen (i64.wrap (r2 - (↑p.t0[p.t5.toNat]!.fBounds.length : Int))) with | none => none | some r3 => match M116 p.t0[p.t5.toNat]!.fElse r3 with | none => none | some r4 => some (some (L116_0.mk p.t0 r4 (i64.wrap (p.t5 + 1)))) else none else none else none else none else none else some (none)
def g116_0 (M116 : (List GStep) → Int → Option E116) : An := (.two (.two (.rb [] 13) .no) .no)
theorem q116_0 (M116 : (List GStep) → Int → Option E116) (p : L116_0) : execA Tryz.prog (F116 M116) Tryz.f116.ntmps 300 (loopAt Tryz.f116 0) (g116_0 M116) (Option L116_0) (d116_0.pat p) (kOn d116_0.rd) = n116_0 M116 p := by kernel_rfl
def a116_0 (M116 : (List GStep) → Int → Option E116) : L116_0 → Option L116_0 := advG (n116_0 M116)
def an116 (M116 : (List GStep) → Int → Option E116) : An := (.two .no (.two (.two .no (d116_0.lp (a116_0 M116) (g116_0 M116))) .no))
theorem pu116 {M116} : ∀ f ∈ ([] : List Nat), PureF (F116 M116) f := ob_nil
theorem fa116 (M116 : (List GStep) → Int → Option E116) : FnAn Tryz.prog (F116 M116) 0 300 116 (an116 M116) := fnAn_of (l := [(loopAt Tryz.f116 0, (d116_0.lp (a116_0 M116) (g116_0 M116))), (.skip, (.rb [] 13))]) Tryz.func116 (bodyOf_eq (by kernel_rfl)) (by kernel_rfl) (ob_cons ⟨d116_0.ok _, advG_ok (q116_0 M116)⟩ (ob_cons pu116 ob_nil))
def s116 (M116 : (List GStep) → Int → Option E116) (a0 : List GStep) (a1 : Int) : Option E116 :=
 match a116_0 M116 (L116_0.mk a0 a1 (0)) with | none => none | some r5 => match bif decide (r5.t5 < (↑r5.t0.length : Int)) then some (decide (0 ≤ r5.t1)) else some (false) with | none => none | some r6 => bif r6 then if (0 : Int) ≤ r5.t5 ∧ r5.t5 < (↑r5.t0.length : Int) then match r117 (GTerm.mk r5.t0[r5.t5.toNat]!.fTerm.fOp r5.t0[r5.t5.toNat]!.fTerm.fN r5.t0[r5.t5.toNat]!.fTerm.fKids) (i64.wrap (r5.t1 - 1)) with | none => none | some r7 => if (0 : Int) ≤ r5.t5 ∧ r5.t5 < (↑r5.t0.length : Int) then bif decide (r7 < (↑r5.t0[r5.t5.toNat]!.fBounds.length : Int)) then some (-1) else if (0 : Int) ≤ r5.t5 ∧ r5.t5 < (↑r5.t0.length : Int) then if (0 : Int) ≤ r5.t5 ∧ r5.t5 < (↑r5.t0.length : Int) then if (0 : Int) ≤ r5.t5 ∧ r5.t5 < (↑r5.t0.length : Int) then match M116 r5.t0[r5.t5.toNat]!.fThen (i64.wrap (r7 - (↑r5.t0[r5.t5.toNat]!.fBounds.length : Int))) with | none => none | some r8 => match M116 r5.t0[r5.t5.toNat]!.fElse r8 with | none => none | some r9 => none else none else none else none else none else none else some (r5.t1)
theorem c116 (M116 : (List GStep) → Int → Option E116) (a0 : List GStep) (a1 : Int) : callR Tryz.prog (F116 M116) 300 (an116 M116) 116 (A116.c (a0, a1, ())) [] 0 d116.rd = s116 M116 a0 a1 := by kernel_rfl
def mm116 : Nat → ((List GStep) → Int → Option E116)
 | 0 => (fun _ _ => none)
 | n + 1 => (s116 (mm116 n))
def m116 (n : Nat) : (List GStep) → Int → Option E116 := (mm116 n)
theorem mm116_ok : ∀ n, H116 (m116 n)
 | 0 => fun _ _ h => (by cases h)
 | n + 1 => by
  have ih := mm116_ok n
  have i116 := ih
  exact (hl_of (F116_ok i116) (fa116 (m116 n)) (fun _ => by kernel_rfl) (fun _ => by kernel_rfl) fun g => c116 (m116 n) g.1 g.2.1)
def r116 : (List GStep) → Int → Option E116 := fun a0 a1 => lim (fun n => m116 n a0 a1)
theorem r116_ok : H116 r116 := fun g b h => by
 obtain ⟨n, hn⟩ := lim_some (show lim (fun n => m116 n g.1 g.2.1) = some b from h)
 exact (mm116_ok n) g b hn
def e116 (F : Orc) : Orc := x116 r116 F
theorem e116_ok {F : Orc} (h : OrcG Tryz.prog F) : OrcG Tryz.prog (e116 F) := x116_ok r116_ok h
def F53 : Orc := (e117 (e116 or0))
theorem F53_ok : OrcG Tryz.prog F53 := (e117_ok (e116_ok or0_g))
structure L53_0 where
 t7 : Int
 t27 : List Hatch
 t28 : Int
 t29 : Int
def d53_0 : Td 0 L53_0 := .c [] [7, 27, 28, 29] (.r 0 0 (ec 7 (qi .i64) (ec 27 (ql 139) (ec 28 (qi .i64) (ec 29 (qi .i64) en)))) sn (fun z => ⟨z.1.1, z.1.2.1, z.1.2.2.1, z.1.2.2.2.1⟩) (fun x => ((x.t7, x.t27, x.t28, x.t29, ()), (()))) fun _ => rfl)
def n53_0 (p : L53_0) : Option (Option L53_0) :=
 bif decide (p.t29 < p.t28) then if (0 : Int) ≤ p.t29 ∧ p.t29 < (↑p.t27.length : Int) then match r117 (GTerm.mk p.t27[p.t29.toNat]!.fTerm.fOp p.t27[p.t29.toNat]!.fTerm.fN p.t27[p.t29.toNat]!.fTerm.fKids) p.t7 with | none => none | some r1 => some (some (L53_0.mk r1 p.t27 p.t28 (i64.wrap (p.t29 + 1)))) else none else some (none)
theorem q53_0 (p : L53_0) : execA Tryz.prog (F53) Tryz.f53.ntmps 300 (loopAt Tryz.f53 0) .no (Option L53_0) (d53_0.pat p) (kOn d53_0.rd) = n53_0 p := by kernel_rfl
def a53_0 : L53_0 → Option L53_0 := advG (n53_0)
abbrev E53 : Type := Bool
def d53 : Td 0 E53 := .c [] [6] (.r 0 0 (ec 6 qb en) sn (fun z => z.1.1) (fun x => ((x, ()), (()))) fun _ => rfl)
def A53 := (lc (qg 26) (lc (qi .i64) (lc (qi .i64) ln)))
def an53 : An := (.two .no (.two (.two (.rb [] 21) .no) (.two .no (.two (.two .no (d53_0.lp a53_0 .no)) .no))))
theorem pu53  : ∀ f ∈ ([] : List Nat), PureF (F53) f := ob_nil
theorem fa53 : FnAn Tryz.prog (F53) 0 300 53 (an53) := fnAn_of (l := [(.skip, (.rb [] 21)), (loopAt Tryz.f53 0, (d53_0.lp a53_0 .no))]) Tryz.func53 (bodyOf_eq (by kernel_rfl)) (by kernel_rfl) (ob_cons pu53 (ob_cons ⟨d53_0.ok _, advG_ok (q53_0)⟩ ob_nil))
def m53 (a0 : Flat) (a1 : Int) (a2 : Int) : Option E53 :=
 match bif decide (a1 < (↑a0.fVars.length : Int)) then some (true) else some (decide (a1 < (↑a0.fHatches.length : Int))) with | none => none | some r2 => bif r2 then some (false) else match r116 a0.fBody a2 with | none => none | some r3 => match a53_0 (L53_0.mk r3 a0.fHatches (↑a0.fHatches.length : Int) (0)) with | none => none | some r4 => bif decide (r4.t29 < r4.t28) then if (0 : Int) ≤ r4.t29 ∧ r4.t29 < (↑r4.t27.length : Int) then match r117 (GTerm.mk r4.t27[r4.t29.toNat]!.fTerm.fOp r4.t27[r4.t29.toNat]!.fTerm.fN r4.t27[r4.t29.toNat]!.fTerm.fKids) r4.t7 with | none => none | some r5 => none else none else some (decide (0 ≤ r4.t7))
theorem c53 (a0 : Flat) (a1 : Int) (a2 : Int) : callR Tryz.prog (F53) 300 (an53) 53 (A53.c (a0, a1, a2, ())) [] 0 d53.rd = m53 a0 a1 a2 := by kernel_rfl
def e53 : Orc → Orc := eL Tryz.prog 53 false A53 d53 (fun g => m53 g.1 g.2.1 g.2.2.1)
theorem e53_ok {F : Orc} (h : OrcG Tryz.prog F) : OrcG Tryz.prog (e53 F) := eL_ok (sc := scU) scU_ok (hl_of F53_ok fa53 (fun _ => by kernel_rfl) (fun _ => by kernel_rfl) fun g => c53 g.1 g.2.1 g.2.2.1) ⟨_, Tryz.func53, by kernel_rfl, by kernel_rfl⟩ (fun _ => by kernel_rfl) (fun _ => by kernel_rfl) h
theorem e53_pure {F : Orc} {f : Nat} (h : PureF F f) : PureF (e53 F) f := orL_pure h (fun _ => by kernel_rfl)
end Go.Proofs.YtnfljbehcffmcaaGreat
end
noncomputable section
namespace Go.Iv
open Go
variable [U : Uni] [L : UniL]
theorem wrap_id {n : Int} (h1 : -9223372036854775808 ≤ n) (h2 : n < 9223372036854775808) : IntKind.i64.wrap n = n := by
 simp [IntKind.wrap, IntKind.bits, IntKind.signed]
 omega
def foldE {α β ρ : Type} (step : β → α → Option β) (ret : β → α → ρ) (fin : β → ρ) : List α → β → ρ
 | [], b => fin b
 | x :: xs, b => match step b x with
  | some b' => foldE step ret fin xs b'
  | none => ret b x
theorem advG_list {γ α β ρ : Type} {rnd : γ → Option (Option γ)} (l : List α) (mk : Nat → β → γ) (step : β → α → Option β) (ret : β → α → ρ) (fin : β → ρ) (I : Nat → β → Prop)
  (h1 : ∀ i b (hi : i < l.length), I i b → ∀ b', step b l[i] = some b' → rnd (mk i b) = some (some (mk (i + 1) b')) ∧ I (i + 1) b')
  (h2 : ∀ i b (hi : i < l.length), I i b → step b l[i] = none → ∀ r, rnd (mk i b) ≠ some (some r)) (h3 : ∀ b, I l.length b → ∀ r, rnd (mk l.length b) ≠ some (some r)) {b : β} (hb : I 0 b) :
  ∃ i v, i ≤ l.length ∧ advG rnd (mk 0 b) = some (mk i v) ∧ I i v ∧ ((i = l.length ∧ foldE step ret fin l b = fin v) ∨ ∃ hi : i < l.length, step v l[i] = none ∧ foldE step ret fin l b = ret v l[i]) := by
 have key : ∀ (xs : List α) (i : Nat) (b : β), l.drop i = xs → i ≤ l.length → I i b → ∃ j v, j ≤ l.length ∧ advG rnd (mk i b) = some (mk j v) ∧ I j v ∧ ((j = l.length ∧ foldE step ret fin xs b = fin v) ∨ ∃ hi : j < l.length, step v l[j] = none ∧ foldE step ret fin xs b = ret v l[j]) := by
  intro xs
  induction xs with
  | nil =>
   intro i b hd hi hb
   have : i = l.length := by have := congrArg List.length hd; simp at this; omega
   subst this
   exact ⟨_, b, Nat.le_refl _, advG_stop (h3 b hb), hb, .inl ⟨rfl, rfl⟩⟩
  | cons x xs ih =>
   intro i b hd hi hb
   have hil : i < l.length := by have := congrArg List.length hd; simp at this; omega
   have hx : l[i] = x := by
    have := congrArg List.head? hd
    rw [List.head?_drop, List.getElem?_eq_getElem hil] at this
    simpa using this
   have hd' : l.drop (i + 1) = xs := by
    have := congrArg List.tail hd
    rw [List.tail_drop] at this
    simpa using this
   cases hs : step b x with
   | some b' =>
    obtain ⟨q1, q2⟩ := h1 i b hil hb b' (by rw [hx]; exact hs)
    obtain ⟨j, v, e1, e2, e3, e4⟩ := ih (i + 1) b' hd' hil q2
    have er : foldE step ret fin (x :: xs) b = foldE step ret fin xs b' := by simp only [foldE, hs]
    exact ⟨j, v, e1, by rw [advG_step q1]; exact e2, e3, by rw [er]; exact e4⟩
   | none =>
    have er : foldE step ret fin (x :: xs) b = ret b x := by simp only [foldE, hs]
    exact ⟨i, b, hi, advG_stop (h2 i b hil hb (by rw [hx]; exact hs)), hb, .inr ⟨hil, by rw [hx]; exact hs, by rw [er, hx]⟩⟩
 exact key l 0 b rfl (Nat.zero_le _) hb
end Go.Iv
end
noncomputable section
namespace Go.Proofs.YtnfljbehcffmcaaGreat
open Go Go.Iv
open Go.IntKind (i64)
theorem GTerm.eta (t : GTerm) : GTerm.mk t.fOp t.fN t.fKids = t := by cases t; rfl
theorem GTerm.kids_lt {t k : GTerm} (h : k ∈ t.fKids) : SizeOf.sizeOf k < SizeOf.sizeOf t := by
 cases t
 have := List.sizeOf_lt_of_mem h
 simp only [GTerm.mk.sizeOf_spec]
 simp only at this
 omega
def nT (t : GTerm) : Nat := 1 + (t.fKids.attach.map fun k => nT k.1).sum
termination_by SizeOf.sizeOf t
decreasing_by exact GTerm.kids_lt k.2
def nTs (l : List GTerm) : Nat := (l.map nT).sum
theorem nT_eq (t : GTerm) : nT t = 1 + nTs t.fKids := by
 rw [nT, nTs]
 congr 2
 exact List.attach_map_val (f := nT)
theorem nTs_cons (k : GTerm) (ks : List GTerm) : nTs (k :: ks) = nT k + nTs ks := by simp [nTs]
theorem nTs_mem {k : GTerm} {ks : List GTerm} (h : k ∈ ks) : nT k ≤ nTs ks := by
  induction ks with
  | nil => cases h
  | cons a ks ih =>
    rw [nTs_cons]
    rcases List.mem_cons.1 h with rfl | h
    · omega
    · have := ih h; omega
theorem nT_pos (t : GTerm) : 0 < nT t := by rw [nT_eq]; omega
def tl (t : GTerm) (left : Int) : Int := if (nT t : Int) ≤ left then left - nT t else if 0 ≤ left then -1 else left - 1
def tls : List GTerm → Int → Int
 | [], l => l
 | k :: ks, l => if 0 ≤ l then tls ks (tl k l) else l
theorem tls_eq : ∀ (ks : List GTerm) (l : Int), tls ks l = if 0 ≤ l then (if (nTs ks : Int) ≤ l then l - nTs ks else -1) else l
  | [], l => by simp [tls, nTs]; omega
  | k :: ks, l => by
    have e := nTs_cons k ks
    have := nT_pos k
    unfold tls
    by_cases h : 0 ≤ l
    · rw [if_pos h, if_pos h, tls_eq ks, e]
      unfold tl
      grind
    · rw [if_neg h, if_neg h]
theorem tl_eq (t : GTerm) (left : Int) : tl t left = tls t.fKids (left - 1) := by
 rw [tls_eq, tl, nT_eq]
 grind
theorem tl_bd (t : GTerm) (l : Int) : (0 ≤ l → -1 ≤ tl t l ∧ tl t l ≤ l - 1) ∧ (l < 0 → tl t l = l - 1) := by
 have := nT_pos t
 unfold tl
 grind
theorem loop55 (M : GTerm → Int → Option E117) (t : GTerm) (hM : ∀ k ∈ t.fKids, ∀ l : Int, 0 ≤ l → l ≤ 1000 → M k l = some (tl k l)) :
    ∀ (ks : List GTerm) (i : Nat) (l : Int), t.fKids.drop i = ks → i + ks.length = t.fKids.length → l ≤ 1000 - i → ∃ q, a117_0 M ⟨l, i, t⟩ = some q ∧ q.t1 = tls ks l ∧ q.b0 = t ∧ (q.t5 < t.fKids.length → q.t1 < 0)
  | [], i, l, hd, hl, _ => by
    refine ⟨_, advG_stop fun r => ?_, rfl, rfl, fun h => ?_⟩
    · have : ¬ ((i : Int) < t.fKids.length) := by simp at hl; omega
      simp [n117_0, this]
    · simp at hl h; omega
  | k :: ks, i, l, hd, hl, h2 => by
    have hil : i < t.fKids.length := by simp at hl; omega
    have hki : t.fKids[i]! = k := by
      have : t.fKids[i]? = some k := by
        have := congrArg List.head? hd
        rw [List.head?_drop] at this
        simpa using this
      rw [List.getElem!_eq_getElem?_getD, this]; rfl
    have hmem : k ∈ t.fKids := by rw [← hki, getElem!_pos t.fKids i hil]; exact List.getElem_mem hil
    by_cases h0 : 0 ≤ l
    · have hd' : t.fKids.drop (i + 1) = ks := by
        have := congrArg List.tail hd
        rw [List.tail_drop] at this
        simpa using this
      have b3 := ((tl_bd k l).1 h0).2
      obtain ⟨q, e1, e2, e3, e4⟩ := loop55 M t hM ks (i + 1) (tl k l) hd' (by simp at hl; omega) (by omega)
      refine ⟨q, ?_, ?_, e3, e4⟩
      · rw [← e1]
        refine advG_step ?_
        have hw : i64.wrap ((i : Int) + 1) = ((i + 1 : Nat) : Int) := by rw [wrap_id (by omega) (by omega)]; omega
        have hk2 : t.fKids[i] = k := by rw [← hki, getElem!_pos t.fKids i hil]
        simp [n117_0, hil, h0, hk2, GTerm.eta, hM k hmem l h0 (by omega)]
        exact hw
      · rw [e2]
        show _ = if 0 ≤ l then _ else _
        rw [if_pos h0]
    · refine ⟨_, advG_stop fun r => ?_, ?_, rfl, fun h => ?_⟩
      · simp [n117_0, hil, h0]
      · show l = if 0 ≤ l then _ else l
        rw [if_neg h0]
      · simp only; omega
theorem s117_eq (M : GTerm → Int → Option E117) (t : GTerm) (hM : ∀ k ∈ t.fKids, ∀ l : Int, 0 ≤ l → l ≤ 1000 → M k l = some (tl k l)) (l : Int) (h1 : -1000000 ≤ l) (h2 : l ≤ 1000) : s117 M t l = some (tl t l) := by
  obtain ⟨q, e1, e2, e3, e4⟩ := loop55 M t hM t.fKids 0 (l - 1) rfl (by simp) (by omega)
  have hw : i64.wrap (l - 1) = l - 1 := wrap_id (by omega) (by omega)
  rw [tl_eq, ← e2]
  unfold s117
  rw [hw, GTerm.eta, show ((0 : Nat) : Int) = 0 from rfl] at *
  rw [e1]
  obtain ⟨q1, q5, qb⟩ := q
  subst e3
  dsimp only at *
  by_cases h5 : q5 < (qb.fKids.length : Int)
  · have := e4 h5
    simp [h5, show ¬ (0 ≤ q1) by omega]
  · simp [h5]
theorem m117_eq : ∀ (n : Nat) (t : GTerm) (l : Int), SizeOf.sizeOf t < n → -1000000 ≤ l → l ≤ 1000 → m117 n t l = some (tl t l)
 | 0, _, _, h, _, _ => by omega
 | n + 1, t, l, h, h1, h2 => s117_eq (m117 n) t (fun k hk l h3 h4 => m117_eq n k l (by have := GTerm.kids_lt hk; omega) (by omega) h4) l h1 h2
theorem r117_eq (t : GTerm) (l : Int) (h1 : -1000000 ≤ l) (h2 : l ≤ 1000) : r117 t l = some (tl t l) := lim_eq (SizeOf.sizeOf t + 1) fun n hn => m117_eq n t l (by omega) h1 h2
theorem GStep.then_lt {s k : GStep} (h : k ∈ s.fThen) : SizeOf.sizeOf k < SizeOf.sizeOf s := by
 cases s
 have := List.sizeOf_lt_of_mem h
 simp only [GStep.mk.sizeOf_spec]
 simp only at this
 omega
theorem GStep.else_lt {s k : GStep} (h : k ∈ s.fElse) : SizeOf.sizeOf k < SizeOf.sizeOf s := by
 cases s
 have := List.sizeOf_lt_of_mem h
 simp only [GStep.mk.sizeOf_spec]
 simp only at this
 omega
theorem GStep.eta (s : GStep) : GStep.mk s.fDo s.fCost s.fVar s.fN s.fTerm s.fThen s.fElse s.fBounds = s := by cases s; rfl
def nS (s : GStep) : Nat := 1 + nT s.fTerm + s.fBounds.length + (s.fThen.attach.map fun k => nS k.1).sum + (s.fElse.attach.map fun k => nS k.1).sum
termination_by SizeOf.sizeOf s
decreasing_by
  · exact GStep.then_lt k.2
  · exact GStep.else_lt k.2
def nSs (l : List GStep) : Nat := (l.map nS).sum
theorem nS_eq (s : GStep) : nS s = 1 + nT s.fTerm + s.fBounds.length + nSs s.fThen + nSs s.fElse := by
  rw [nS, nSs, nSs]
  congr 2
  · congr 1
    exact List.attach_map_val (f := nS)
  · exact List.attach_map_val (f := nS)
theorem nSs_cons (k : GStep) (ks : List GStep) : nSs (k :: ks) = nS k + nSs ks := by simp [nSs]
def sl (l : List GStep) (left : Int) : Int := if left < 0 then left else if (nSs l : Int) ≤ left then left - nSs l else -1
def stp54 (left : Int) (s : GStep) : Option Int := if left < 0 then none else if tl s.fTerm (left - 1) < s.fBounds.length then none else some (sl s.fElse (sl s.fThen (tl s.fTerm (left - 1) - s.fBounds.length)))
theorem stp54_le {left x : Int} {s : GStep} (h : stp54 left s = some x) : 0 ≤ left ∧ -1 ≤ x ∧ x ≤ left - 1 ∧ x = if (nS s : Int) ≤ left then left - nS s else -1 := by
 unfold stp54 at h
 have e := nS_eq s
 unfold tl sl at h
 grind
theorem stp54_none {left : Int} {s : GStep} (h : stp54 left s = none) (h0 : 0 ≤ left) : left < nS s := by
 unfold stp54 at h
 have e := nS_eq s
 unfold tl at h
 grind
theorem run54 : ∀ (l : List GStep) (left : Int), foldE stp54 (fun v _ => if v < 0 then v else -1) id l left = sl l left
 | [], left => by unfold sl; simp [nSs, foldE]; omega
 | s :: l, left => by
  have e := nSs_cons s l
  unfold foldE
  cases hs : stp54 left s with
  | none =>
   have := stp54_none hs
   unfold sl
   grind
  | some x =>
   obtain ⟨h1, h2, h3, h4⟩ := stp54_le hs
   dsimp only
   rw [run54 l x]
   unfold sl
   grind
theorem s116_eq (M : List GStep → Int → Option E116) (l : List GStep) (hM : ∀ s ∈ l, (∀ x : Int, -1 ≤ x → x ≤ 1000 → M s.fThen x = some (sl s.fThen x)) ∧ (∀ x : Int, -1 ≤ x → x ≤ 1000 → M s.fElse x = some (sl s.fElse x))) (left : Int) (h1 : -1 ≤ left) (h2 : left ≤ 1000) :
    s116 M l left = some (sl l left) := by
  have hstep : ∀ (i : Nat) (b : Int) (hi : i < l.length), b ≤ 1000 - i → -1 ≤ b → n116_0 M ⟨l, b, i⟩ = if b < 0 then some none else if tl l[i].fTerm (b - 1) < l[i].fBounds.length then some none else some (some ⟨l, sl l[i].fElse (sl l[i].fThen (tl l[i].fTerm (b - 1) - l[i].fBounds.length)), ((i + 1 : Nat) : Int)⟩) := fun i b hi hb hb2 => by
    obtain ⟨m1, m2⟩ := hM l[i] (List.getElem_mem hi)
    unfold n116_0
    by_cases h0 : b < 0
    · simp [hi, h0, show ¬ 0 ≤ b by omega]
    · have e1 : i64.wrap (b - 1) = b - 1 := wrap_id (by omega) (by omega)
      have e2 := r117_eq l[i].fTerm (b - 1) (by omega) (by omega)
      have e3 := tl_bd l[i].fTerm (b - 1)
      have hT : -2 ≤ tl l[i].fTerm (b - 1) ∧ tl l[i].fTerm (b - 1) ≤ 1000 := by grind
      by_cases h4 : tl l[i].fTerm (b - 1) < l[i].fBounds.length
      · simp [hi, h0, e1, GTerm.eta, e2, h4, show 0 ≤ b by omega]
      · have e5 : i64.wrap (tl l[i].fTerm (b - 1) - l[i].fBounds.length) = tl l[i].fTerm (b - 1) - l[i].fBounds.length := wrap_id (by omega) (by omega)
        have e6 := m1 (tl l[i].fTerm (b - 1) - l[i].fBounds.length) (by omega) (by omega)
        have hS : -1 ≤ sl l[i].fThen (tl l[i].fTerm (b - 1) - l[i].fBounds.length) ∧ sl l[i].fThen (tl l[i].fTerm (b - 1) - l[i].fBounds.length) ≤ 1000 := by unfold sl; grind
        have e7 := m2 _ hS.1 hS.2
        have e8 : i64.wrap ((i : Int) + 1) = ((i + 1 : Nat) : Int) := by rw [wrap_id (by omega) (by omega)]; omega
        simp [hi, h0, e1, GTerm.eta, e2, h4, e5, e6, e7, show 0 ≤ b by omega]
        exact e8
  obtain ⟨i, v, hi, e1, ⟨e2, e3⟩, e4⟩ := advG_list (rnd := n116_0 M) l (fun i b => ⟨l, b, (i : Int)⟩) stp54 (fun v _ => if v < 0 then v else -1) id (fun i b => b ≤ 1000 - i ∧ -1 ≤ b) (fun i b hi hI b' hs => by
      obtain ⟨q1, q2, q3, q4⟩ := stp54_le hs
      refine ⟨?_, by omega, q2⟩
      rw [hstep i b hi hI.1 hI.2]
      unfold stp54 at hs
      grind) (fun i b hi hI hs r => by
      rw [hstep i b hi hI.1 hI.2]
      unfold stp54 at hs
      grind) (fun b hI r => by simp [n116_0]) (b := left) ⟨by omega, h1⟩
  have e1' : a116_0 M ⟨l, left, 0⟩ = some ⟨l, v, i⟩ := e1
  unfold s116
  rw [e1']
  rw [run54] at e4
  rcases e4 with ⟨h5, e4⟩ | ⟨h5, hn, e4⟩
  · simp [h5, e4]
  · rw [e4]
    by_cases h0 : v < 0
    · simp [h5, h0, show ¬ (0 ≤ v) by omega]
    · have e1 : i64.wrap (v - 1) = v - 1 := wrap_id (by omega) (by omega)
      have e2 := r117_eq l[i].fTerm (v - 1) (by omega) (by omega)
      have h4 : tl l[i].fTerm (v - 1) < l[i].fBounds.length := by unfold stp54 at hn; grind
      simp [h5, h0, show 0 ≤ v by omega, e1, GTerm.eta, e2, h4]
theorem sizeOf_then {s : GStep} {l : List GStep} (h : s ∈ l) : SizeOf.sizeOf s.fThen < SizeOf.sizeOf l ∧ SizeOf.sizeOf s.fElse < SizeOf.sizeOf l := by
 have := List.sizeOf_lt_of_mem h
 cases s
 simp only [GStep.mk.sizeOf_spec] at this
 simp only
 omega
theorem m116_eq : ∀ (n : Nat) (l : List GStep) (x : Int), SizeOf.sizeOf l < n → -1 ≤ x → x ≤ 1000 → m116 n l x = some (sl l x)
 | 0, _, _, h, _, _ => by omega
 | n + 1, l, x, h, h1, h2 => s116_eq (m116 n) l (fun s hs => ⟨fun x h3 h4 => m116_eq n _ x (by have := sizeOf_then hs; omega) h3 h4, fun x h3 h4 => m116_eq n _ x (by have := sizeOf_then hs; omega) h3 h4⟩) x h1 h2
theorem r116_eq (l : List GStep) (x : Int) (h1 : -1 ≤ x) (h2 : x ≤ 1000) : r116 l x = some (sl l x) := lim_eq (SizeOf.sizeOf l + 1) fun n hn => m116_eq n l x (by omega) h1 h2
def few (f : Flat) (vars nodes : Int) : Bool := decide ((f.fVars.length : Int) ≤ vars ∧ (f.fHatches.length : Int) ≤ vars ∧ (nSs f.fBody + nTs (f.fHatches.map (·.fTerm)) : Int) ≤ nodes)
theorem m53_eq (f : Flat) (vars nodes : Int) (h1 : 0 ≤ vars) (h2 : vars ≤ 1000) (h3 : 0 ≤ nodes) (h4 : nodes ≤ 1000) : m53 f vars nodes = some (few f vars nodes) := by
  unfold m53
  by_cases q1 : vars < f.fVars.length
  · simp [q1, few]; omega
  · by_cases q2 : vars < f.fHatches.length
    · simp [q1, q2, few]; omega
    · rw [r116_eq _ _ (by omega) (by omega)]
      have hb : sl f.fBody nodes ≤ 1000 ∧ -1 ≤ sl f.fBody nodes := by unfold sl; grind
      have hstep : ∀ (i : Nat) (b : Int) (hi : i < f.fHatches.length), b ≤ 1000 → -1 - (i : Int) ≤ b → n53_0 ⟨b, f.fHatches, f.fHatches.length, i⟩ = some (some ⟨tl f.fHatches[i].fTerm b, f.fHatches, f.fHatches.length, ((i + 1 : Nat) : Int)⟩) := fun i b hi hb hb2 => by
        have e2 := r117_eq f.fHatches[i].fTerm b (by omega) (by omega)
        have e8 : i64.wrap ((i : Int) + 1) = ((i + 1 : Nat) : Int) := by rw [wrap_id (by omega) (by omega)]; omega
        unfold n53_0
        simp [hi, GTerm.eta, e2]
        exact e8
      obtain ⟨i, v, hi, e1, _, e4⟩ := advG_list (rnd := n53_0) f.fHatches (fun i b => ⟨b, f.fHatches, f.fHatches.length, (i : Int)⟩) (fun b h => some (tl h.fTerm b)) (fun v _ => v) id (fun i b => b ≤ 1000 ∧ -1 - (i : Int) ≤ b) (fun i b hi hI b' hs => by
          cases hs
          refine ⟨hstep i b hi hI.1 hI.2, ?_⟩
          have := tl_bd f.fHatches[i].fTerm b
          grind) (fun i b hi hI hs r => by cases hs) (fun b hI r => by simp [n53_0]) (b := sl f.fBody nodes) ⟨hb.1, by omega⟩
      have e1' : a53_0 ⟨sl f.fBody nodes, f.fHatches, f.fHatches.length, 0⟩ = some ⟨v, f.fHatches, f.fHatches.length, i⟩ := e1
      rcases e4 with ⟨h5, e4⟩ | ⟨_, hn, _⟩
      case inr => cases hn
      have key : ∀ (l : List Hatch) (b : Int), 0 ≤ foldE (ρ := Int) (fun b h => some (tl h.fTerm b)) (fun v _ => v) id l b ↔ (nTs (l.map (·.fTerm)) : Int) ≤ b := fun l => by
        induction l with
        | nil => intro b; simp [foldE, nTs]
        | cons h l ih =>
          intro b
          unfold foldE
          dsimp only
          rw [ih, List.map_cons, nTs_cons]
          have := nT_pos h.fTerm
          unfold tl
          grind
      have k2 := key f.fHatches (sl f.fBody nodes)
      rw [e4] at k2
      have k3 : (0 ≤ v) ↔ (nTs (f.fHatches.map (·.fTerm)) : Int) ≤ sl f.fBody nodes := k2
      simp only [q1, q2, decide_false, cond_false, e1', h5, Int.lt_irrefl, few]
      congr 1
      rw [decide_eq_decide, k3]
      unfold sl
      grind
end Go.Proofs.YtnfljbehcffmcaaGreat
end
noncomputable section
namespace Go.Iv
open Go
variable [U : Uni] [L : UniL]
def goE {α β ρ τ : Type} (step : Nat → β → α → β ⊕ ρ) (out : ρ → τ) (fin : β → τ) : List α → Nat → β → τ
 | [], _, b => fin b
 | x :: xs, i, b => match step i b x with
  | .inl b' => goE step out fin xs (i + 1) b'
  | .inr r => out r
theorem goE_inl {α β ρ τ : Type} {step : Nat → β → α → β ⊕ ρ} {out : ρ → τ} {fin : β → τ} {x : α} {xs : List α} {i : Nat} {b b' : β} (h : step i b x = .inl b') : goE step out fin (x :: xs) i b = goE step out fin xs (i + 1) b' := by
 simp only [goE, h]
theorem goE_inr {α β ρ τ : Type} {step : Nat → β → α → β ⊕ ρ} {out : ρ → τ} {fin : β → τ} {x : α} {xs : List α} {i : Nat} {b : β} {r : ρ} (h : step i b x = .inr r) : goE step out fin (x :: xs) i b = out r := by
 simp only [goE, h]
theorem loopV {γ α β ρ τ : Type} [Inhabited α] {rnd : γ → Option (Option γ)} (l : List α) (mk : Nat → β → γ) (step : Nat → β → α → β ⊕ ρ) (out : ρ → τ) (fin : β → τ) (I : Nat → β → Prop)
  (h1 : ∀ i b, i < l.length → I i b → (∀ b', step i b l[i]! = .inl b' → rnd (mk i b) = some (some (mk (i + 1) b')) ∧ I (i + 1) b') ∧ ∀ r, step i b l[i]! = .inr r → rnd (mk i b) = some none)
  (h2 : ∀ b, I l.length b → rnd (mk l.length b) = some none) {b : β} (hb : I 0 b) :
  ∃ i v, advG rnd (mk 0 b) = some (mk i v) ∧ I i v ∧ ((i = l.length ∧ goE step out fin l 0 b = fin v) ∨ (i < l.length ∧ ∃ r, step i v l[i]! = .inr r ∧ goE step out fin l 0 b = out r)) := by
 have key : ∀ (xs : List α) (i : Nat) (b : β), l.drop i = xs → i ≤ l.length → I i b → ∃ j v, advG rnd (mk i b) = some (mk j v) ∧ I j v ∧ ((j = l.length ∧ goE step out fin xs i b = fin v) ∨ (j < l.length ∧ ∃ r, step j v l[j]! = .inr r ∧ goE step out fin xs i b = out r)) := by
  intro xs
  induction xs with
  | nil =>
   intro i b hd hi hb
   have : i = l.length := by have := congrArg List.length hd; simp at this; omega
   subst this
   exact ⟨_, b, advG_stop (fun r => by rw [h2 b hb]; simp), hb, .inl ⟨rfl, rfl⟩⟩
  | cons x xs ih =>
   intro i b hd hi hb
   have hil : i < l.length := by have := congrArg List.length hd; simp at this; omega
   have hx : l[i]! = x := by
    have := congrArg List.head? hd
    rw [List.head?_drop, List.getElem?_eq_getElem hil] at this
    rw [getElem!_pos l i hil]
    simpa using this
   have hd' : l.drop (i + 1) = xs := by
    have := congrArg List.tail hd
    rw [List.tail_drop] at this
    simpa using this
   obtain ⟨p1, p2⟩ := h1 i b hil hb
   cases hs : step i b x with
   | inl b' =>
    obtain ⟨q1, q2⟩ := p1 b' (by rw [hx]; exact hs)
    obtain ⟨j, v, e2, e3, e4⟩ := ih (i + 1) b' hd' hil q2
    rw [goE_inl hs]
    exact ⟨j, v, by rw [advG_step q1]; exact e2, e3, e4⟩
   | inr r =>
    rw [goE_inr hs]
    exact ⟨i, b, advG_stop (fun r' => by rw [p2 r (by rw [hx]; exact hs)]; simp), hb, .inr ⟨hil, r, by rw [hx]; exact hs, rfl⟩⟩
 exact key l 0 b rfl (Nat.zero_le _) hb
theorem get_memL {α : Type} [Inhabited α] {l : List α} {i : Nat} (h : i < l.length) : l[i]! ∈ l := by rw [getElem!_pos l i h]; exact List.getElem_mem h
theorem w1L {i n : Nat} (h : i < n) (hn : n ≤ 1000000) : IntKind.i64.wrap ((i : Int) + 1) = ((i + 1 : Nat) : Int) := by rw [wrap_id (by omega) (by omega)]; omega
theorem loopJ {γ β : Type} {rnd : γ → Option (Option γ)} (n : Nat) (mk : Nat → β → γ) (I S : Nat → β → Prop)
    (h1 : ∀ i b, i < n → I i b → (∃ b', rnd (mk i b) = some (some (mk (i + 1) b')) ∧ I (i + 1) b') ∨ (rnd (mk i b) = some none ∧ S i b))
    (h2 : ∀ b, I n b → rnd (mk n b) = some none) {b : β} (hb : I 0 b) :
    ∃ i v, advG rnd (mk 0 b) = some (mk i v) ∧ I i v ∧ (i = n ∨ (i < n ∧ S i v)) := by
  have key : ∀ (k i : Nat) (b : β), i + k = n → I i b → ∃ j v, advG rnd (mk i b) = some (mk j v) ∧ I j v ∧ (j = n ∨ (j < n ∧ S j v)) := by
    intro k
    induction k with
    | zero =>
      intro i b hi hb
      have : i = n := by omega
      subst this
      exact ⟨_, b, advG_stop (fun r => by rw [h2 b hb]; simp), hb, .inl rfl⟩
    | succ k ih =>
      intro i b hi hb
      rcases h1 i b (by omega) hb with ⟨b', q1, q2⟩ | ⟨q1, q2⟩
      · rw [advG_step q1]
        exact ih (i + 1) b' (by omega) q2
      · exact ⟨i, b, advG_stop (fun r => by rw [q1]; simp), hb, .inr ⟨by omega, q2⟩⟩
  exact key n 0 b (by omega) hb
theorem loopI {γ β : Type} {rnd : γ → Option (Option γ)} (n : Nat) (mk : Nat → β → γ) (I : Nat → β → Prop)
    (h1 : ∀ i b, i < n → I i b → ∃ b', rnd (mk i b) = some (some (mk (i + 1) b')) ∧ I (i + 1) b')
    (h2 : ∀ b, I n b → rnd (mk n b) = some none) {b : β} (hb : I 0 b) : ∃ v, advG rnd (mk 0 b) = some (mk n v) ∧ I n v := by
  obtain ⟨i, v, e, hi, h⟩ := loopJ n mk I (fun _ _ => False) (fun i b hi hb => .inl (h1 i b hi hb)) h2 hb
  rcases h with rfl | ⟨_, h⟩
  · exact ⟨v, e, hi⟩
  · exact h.elim
def firstC {α : Type} (c : Nat → α → Int) : List α → Nat → Int
 | [], _ => 0
 | x :: xs, i => if c i x = 0 then firstC c xs (i + 1) else c i x
theorem loopC {γ α : Type} [Inhabited α] {rnd : γ → Option (Option γ)} (l : List α) (mk : Nat → γ) (c : Nat → α → Int)
    (h1 : ∀ i, i < l.length → (c i l[i]! = 0 → rnd (mk i) = some (some (mk (i + 1)))) ∧ (c i l[i]! ≠ 0 → rnd (mk i) = some none))
    (h2 : rnd (mk l.length) = some none) :
    ∃ i, advG rnd (mk 0) = some (mk i) ∧ ((i = l.length ∧ firstC c l 0 = 0) ∨ (i < l.length ∧ c i l[i]! ≠ 0 ∧ firstC c l 0 = c i l[i]!)) := by
  have key : ∀ (xs : List α) (i : Nat), l.drop i = xs → i ≤ l.length → ∃ j, advG rnd (mk i) = some (mk j) ∧ ((j = l.length ∧ firstC c xs i = 0) ∨ (j < l.length ∧ c j l[j]! ≠ 0 ∧ firstC c xs i = c j l[j]!)) := by
    intro xs
    induction xs with
    | nil =>
      intro i hd hi
      have : i = l.length := by have := congrArg List.length hd; simp at this; omega
      subst this
      exact ⟨_, advG_stop (fun r => by rw [h2]; simp), .inl ⟨rfl, rfl⟩⟩
    | cons x xs ih =>
      intro i hd hi
      have hil : i < l.length := by have := congrArg List.length hd; simp at this; omega
      have hx : l[i]! = x := by
        have := congrArg List.head? hd
        rw [List.head?_drop, List.getElem?_eq_getElem hil] at this
        rw [getElem!_pos l i hil]
        simpa using this
      have hd' : l.drop (i + 1) = xs := by
        have := congrArg List.tail hd
        rw [List.tail_drop] at this
        simpa using this
      obtain ⟨p1, p2⟩ := h1 i hil
      unfold firstC
      rw [hx] at p1 p2
      by_cases hc : c i x = 0
      · rw [if_pos hc, advG_step (p1 hc)]
        exact ih (i + 1) hd' hil
      · rw [if_neg hc]
        exact ⟨i, advG_stop (fun r => by rw [p2 hc]; simp), .inr ⟨hil, by rw [hx]; exact hc, by rw [hx]⟩⟩
  exact key l 0 rfl (Nat.zero_le _)
theorem loopB {γ α : Type} [Inhabited α] {rnd : γ → Option (Option γ)} (l : List α) (mk : Nat → γ) (c : Nat → α → Bool)
    (h1 : ∀ i, i < l.length → (c i l[i]! = true → rnd (mk i) = some (some (mk (i + 1)))) ∧ (c i l[i]! = false → rnd (mk i) = some none))
    (h2 : rnd (mk l.length) = some none) :
    ∃ i, advG rnd (mk 0) = some (mk i) ∧ ((i = l.length ∧ ∀ j, j < l.length → c j l[j]! = true) ∨ (i < l.length ∧ c i l[i]! = false)) := by
  obtain ⟨i, v, e, hI, h⟩ := loopJ (β := Unit) (rnd := rnd) l.length (fun i _ => mk i) (fun i _ => ∀ j, j < i → c j l[j]! = true) (fun i _ => c i l[i]! = false) (fun i b hi hI => by
      obtain ⟨p1, p2⟩ := h1 i hi
      cases hc : c i l[i]! with
      | true => exact .inl ⟨(), p1 hc, fun j hj => by
          rcases Nat.lt_succ_iff_lt_or_eq.1 hj with h | h
          · exact hI j h
          · subst h; exact hc⟩
      | false => exact .inr ⟨p2 hc, rfl⟩) (fun b _ => h2) (b := ()) (fun j hj => absurd hj (by omega))
  refine ⟨i, e, ?_⟩
  rcases h with h | h
  · subst h; exact .inl ⟨rfl, hI⟩
  · exact .inr h
theorem all_of {α : Type} [Inhabited α] {l : List α} {p : α → Bool} (h : ∀ j, j < l.length → p l[j]! = true) : l.all p = true := by
 rw [List.all_eq_true]
 intro x hx
 obtain ⟨i, hi, e⟩ := List.getElem_of_mem hx
 have := h i hi
 rw [getElem!_pos l i hi, e] at this
 exact this
theorem not_all {α : Type} [Inhabited α] {l : List α} {p : α → Bool} {i : Nat} (hi : i < l.length) (h : p l[i]! = false) : l.all p = false := by
 cases ha : l.all p with
 | false => rfl
 | true =>
  rw [List.all_eq_true] at ha
  rw [ha _ (get_memL hi)] at h
  exact absurd h (by decide)
theorem not_any {α : Type} [Inhabited α] {l : List α} {p : α → Bool} (h : ∀ j, j < l.length → p l[j]! = false) : l.any p = false := by
 cases ha : l.any p with
 | false => rfl
 | true =>
  obtain ⟨x, hx, e⟩ := List.any_eq_true.1 ha
  obtain ⟨i, hi, e2⟩ := List.getElem_of_mem hx
  have := h i hi
  rw [getElem!_pos l i hi, e2, e] at this
  exact absurd this (by decide)
theorem is_any {α : Type} [Inhabited α] {l : List α} {p : α → Bool} {i : Nat} (hi : i < l.length) (h : p l[i]! = true) : l.any p = true :=
 List.any_eq_true.2 ⟨_, get_memL hi, h⟩
theorem take_succL {α : Type} [Inhabited α] {l : List α} {i : Nat} (h : i < l.length) : l.take (i + 1) = l.take i ++ [l[i]!] := by
 rw [getElem!_pos l i h]
 exact (List.take_append_getElem h).symm
end Go.Iv
end
noncomputable section
namespace Go.Proofs.YtnfljbehcffmcaaGreat
open Go Go.Iv
theorem Z0 : ((0 : Nat) : Int) = (0 : Int) := rfl
def okc (i : Nat) (c : Int) : Bool := decide ((97 ≤ c ∧ c ≤ 122) ∨ (i ≠ 0 ∧ ((48 ≤ c ∧ c ≤ 57) ∨ c = 46 ∨ c = 95)))
def nameB (s : ByteArray) : Bool := decide (1 ≤ s.size) && decide (s.size ≤ 40) && (List.range s.size).all fun i => okc i (byteAt s i)
def boundB (low high : Int) : Bool := decide (low ≤ high ∧ -1048576 ≤ low ∧ high ≤ 1048576)
def varC (vars : List GVar) (i : Nat) (v : GVar) : Int :=
 if nameB v.fName = false then 7
 else if ((vars.take i).any fun w => w.fName.toList == v.fName.toList) = true then 8
 else if v.fKind < 0 ∨ 3 < v.fKind then 1
 else if boundB v.fLow v.fHigh = false then 3
 else if v.fKind = 0 then (if v.fInit < v.fLow ∨ v.fHigh < v.fInit then 3 else 0)
 else if v.fInit = 0 then 0 else 3
def spc (kind : Int) : List GVar → Int → Option Int
 | [], n => some n
 | v :: vs, n => if v.fKind = kind then (if 4096 < n * (v.fHigh - v.fLow + 1) then none else spc kind vs (n * (v.fHigh - v.fLow + 1))) else spc kind vs n
def spaceB (vars : List GVar) : Bool := (spc 1 vars 1).isSome && (spc 2 vars 1).isSome && (match spc 3 vars 1 with | some n => decide (n ≤ 256) | none => false)
def varsC (vars : List GVar) : Int := if firstC (varC vars) vars 0 ≠ 0 then firstC (varC vars) vars 0 else if spaceB vars = true then 0 else 4
def kidsN (o : Int) : Int × Int := if o = 0 ∨ o = 24 then (0, 0) else if o = 6 ∨ o = 7 then (1, 1) else if 8 ≤ o ∧ o ≤ 22 then (2, 2) else if o = 23 then (3, 3) else if o = 25 then (2, 33) else (-1, -1)
def form0 (vars : List GVar) (inp : Bool) (t : GTerm) : Bool := decide (0 ≤ (kidsN t.fOp).1 ∧ (kidsN t.fOp).1 ≤ t.fKids.length ∧ (t.fKids.length : Int) ≤ (kidsN t.fOp).2) &&
 (if t.fOp = 0 then true else if t.fOp = 24 then decide (0 ≤ t.fN ∧ t.fN < vars.length) && !(inp && decide (vars[t.fN.toNat]!.fKind = 0)) else decide (t.fN = 0))
def formS (vars : List GVar) (inp : Bool) (t : GTerm) : Bool := form0 vars inp t && t.fKids.attach.all fun k => formS vars inp k.1
termination_by SizeOf.sizeOf t
decreasing_by exact GTerm.kids_lt k.2
theorem formS_eq (vars : List GVar) (inp : Bool) (t : GTerm) : formS vars inp t = (form0 vars inp t && t.fKids.all (formS vars inp)) := by
 rw [formS]
 congr 1
 rw [List.all_eq, List.all_eq]
 simp
def hull (a b : Span) : Span := ⟨if b.fLow < a.fLow then b.fLow else a.fLow, if a.fHigh < b.fHigh then b.fHigh else a.fHigh⟩
def ruleS (vars : List GVar) (t : GTerm) (k : List Span) : Span :=
 if t.fOp = 0 then ⟨t.fN, t.fN⟩
 else if t.fOp = 24 then ⟨vars[t.fN.toNat]!.fLow, vars[t.fN.toNat]!.fHigh⟩
 else if t.fOp = 6 then ⟨-k[0]!.fHigh, -k[0]!.fLow⟩
 else if t.fOp = 8 then ⟨k[0]!.fLow + k[1]!.fLow, k[0]!.fHigh + k[1]!.fHigh⟩
 else if t.fOp = 9 then ⟨k[0]!.fLow - k[1]!.fHigh, k[0]!.fHigh - k[1]!.fLow⟩
 else if t.fOp = 10 then
  hull (hull (hull ⟨k[0]!.fLow * k[1]!.fLow, k[0]!.fLow * k[1]!.fLow⟩ ⟨k[0]!.fLow * k[1]!.fHigh, k[0]!.fLow * k[1]!.fHigh⟩) ⟨k[0]!.fHigh * k[1]!.fLow, k[0]!.fHigh * k[1]!.fLow⟩) ⟨k[0]!.fHigh * k[1]!.fHigh, k[0]!.fHigh * k[1]!.fHigh⟩
 else if t.fOp = 11 then
  (if (0 : Int) ≤ k[0]!.fLow ∧ (0 : Int) ≤ k[1]!.fLow then ⟨0, if k[0]!.fHigh < -k[0]!.fLow then -k[0]!.fLow else k[0]!.fHigh⟩ else ⟨-(if k[0]!.fHigh < -k[0]!.fLow then -k[0]!.fLow else k[0]!.fHigh), if k[0]!.fHigh < -k[0]!.fLow then -k[0]!.fLow else k[0]!.fHigh⟩)
 else if t.fOp = 12 then ⟨if k[1]!.fLow < 0 then k[1]!.fLow + 1 else 0, if (0 : Int) < k[1]!.fHigh then k[1]!.fHigh - 1 else 0⟩
 else if t.fOp = 21 then ⟨if k[1]!.fLow < k[0]!.fLow then k[1]!.fLow else k[0]!.fLow, if k[1]!.fHigh < k[0]!.fHigh then k[1]!.fHigh else k[0]!.fHigh⟩
 else if t.fOp = 22 then ⟨if k[0]!.fLow < k[1]!.fLow then k[1]!.fLow else k[0]!.fLow, if k[0]!.fHigh < k[1]!.fHigh then k[1]!.fHigh else k[0]!.fHigh⟩
 else if t.fOp = 23 ∨ t.fOp = 25 then (k.drop 2).foldl hull k[1]!
 else ⟨0, 1⟩
def limS (s : Span) : Bool := decide (-1048576 ≤ s.fLow ∧ s.fHigh ≤ 1048576)
def allS : List (Option Span) → Option (List Span)
 | [] => some []
 | none :: _ => none
 | some s :: xs => match allS xs with | some l => some (s :: l) | none => none
def rngS (vars : List GVar) (t : GTerm) : Option Span := match allS (t.fKids.attach.map fun k => rngS vars k.1) with
 | none => none
 | some l => if limS (ruleS vars t l) = true then some (ruleS vars t l) else none
termination_by SizeOf.sizeOf t
decreasing_by exact GTerm.kids_lt k.2
theorem rngS_eq (vars : List GVar) (t : GTerm) : rngS vars t = match allS (t.fKids.map (rngS vars)) with
 | none => none
 | some l => if limS (ruleS vars t l) = true then some (ruleS vars t l) else none := by
 rw [rngS]
 rw [show (t.fKids.attach.map fun k => rngS vars k.1) = t.fKids.map (rngS vars) from List.attach_map_val (f := rngS vars)]
def termC (vars : List GVar) (inp : Bool) (t : GTerm) : Int := if formS vars inp t = false then 1 else if (rngS vars t).isSome then 0 else 3
def hatC (f : Flat) (i : Nat) (h : Hatch) : Int :=
 if nameB h.fName = false then 7
 else if ((f.fHatches.take i).any fun w => w.fName.toList == h.fName.toList) = true then 8
 else if boundB h.fLow h.fHigh = false then 3
 else termC f.fVars true h.fTerm
def dT (t : GTerm) : Int := 1 + (t.fKids.attach.map fun k => dT k.1).foldl max 0
termination_by SizeOf.sizeOf t
decreasing_by exact GTerm.kids_lt k.2
def dTs (l : List GTerm) : Int := (l.map dT).foldl max 0
theorem dT_eq (t : GTerm) : dT t = 1 + dTs t.fKids := by
 rw [dT, dTs]
 rw [show (t.fKids.attach.map fun k => dT k.1) = t.fKids.map dT from List.attach_map_val (f := dT)]
theorem foldl_max_append (l : List Int) (a x : Int) : (l ++ [x]).foldl max a = max (l.foldl max a) x := by simp [List.foldl_append]
theorem dTs_snoc (l : List GTerm) (k : GTerm) : dTs (l ++ [k]) = max (dTs l) (dT k) := by
 unfold dTs
 rw [List.map_append, List.map_cons, List.map_nil, foldl_max_append]
theorem nTs_snoc (l : List GTerm) (k : GTerm) : nTs (l ++ [k]) = nTs l + nT k := by
 simp [nTs]
theorem le_foldl_max : ∀ (l : List Int) (a : Int), a ≤ l.foldl max a
 | [], a => Int.le_refl _
 | x :: l, a => Int.le_trans (Int.le_max_left a x) (le_foldl_max l (max a x))
theorem dTs_pos (l : List GTerm) : 0 ≤ dTs l := le_foldl_max _ _
theorem dT_pos (t : GTerm) : 1 ≤ dT t := by have := dTs_pos t.fKids; rw [dT_eq]; omega
theorem size_tail (s : GStep) (l : List GStep) : SizeOf.sizeOf l < SizeOf.sizeOf (s :: l) := by
 rw [List.cons.sizeOf_spec]
 omega
def dSs : List GStep → Int
 | [] => 0
 | s :: l => max (max (dSs s.fThen + 1) (dSs s.fElse + 1)) (dSs l)
termination_by l => SizeOf.sizeOf l
decreasing_by
  · exact (sizeOf_then (List.mem_cons_self ..)).1
  · exact (sizeOf_then (List.mem_cons_self ..)).2
  · exact size_tail _ _
def tDeep : List GStep → Bool
 | [] => false
 | s :: l => decide (12 < dT s.fTerm) || tDeep s.fThen || tDeep s.fElse || tDeep l
termination_by l => SizeOf.sizeOf l
decreasing_by
  · exact (sizeOf_then (List.mem_cons_self ..)).1
  · exact (sizeOf_then (List.mem_cons_self ..)).2
  · exact size_tail _ _
theorem dSs_pos (l : List GStep) : 0 ≤ dSs l := by
 induction l with
 | nil => rw [dSs]; omega
 | cons s l ih => rw [dSs]; omega
theorem dSs_snoc (l : List GStep) (s : GStep) : dSs (l ++ [s]) = max (dSs l) (max (dSs s.fThen + 1) (dSs s.fElse + 1)) := by
 induction l with
 | nil =>
  have := dSs_pos s.fThen
  rw [List.nil_append, show dSs [] = 0 by rw [dSs], dSs, show dSs [] = 0 by rw [dSs]]
  omega
 | cons a l ih => rw [List.cons_append, dSs, dSs, ih]; omega
theorem nSs_snoc (l : List GStep) (k : GStep) : nSs (l ++ [k]) = nSs l + nS k := by simp [nSs]
def sizesB (f : Flat) : Bool := decide (f.fVars.length ≤ 64) && decide (f.fHatches.length ≤ 8) && f.fHatches.all (fun h => decide (dT h.fTerm ≤ 12)) && decide (dSs f.fBody ≤ 12) && !tDeep f.fBody
def riseB : List Int → Bool
 | a :: b :: l => decide (a < b) && riseB (b :: l)
 | _ => true
def zeroT (t : GTerm) : Bool := decide (t.fOp = 0 ∧ t.fN = 0 ∧ t.fKids.length = 0)
def localB (f : Flat) (s : GStep) : Bool := decide (0 ≤ s.fVar ∧ s.fVar < f.fVars.length) && decide (f.fVars[s.fVar.toNat]!.fKind = 0)
def shapeB (f : Flat) (s : GStep) (last : Bool) : Bool :=
 let free := decide (s.fThen.length = 0 ∧ s.fElse.length = 0)
 let nob := decide (s.fBounds.length = 0)
 if s.fDo = 0 then free && localB f s && decide (s.fN = 0) && nob
 else if s.fDo = 1 then free && decide (s.fVar = 0) && decide (s.fN = 0) && nob
 else if s.fDo = 2 then free && decide (s.fVar = 0) && decide (s.fN = 0) && nob && zeroT s.fTerm
 else if s.fDo = 3 then decide (s.fVar = 0) && decide (s.fN = 0) && nob
 else if s.fDo = 4 then decide (s.fVar = 0) && decide (s.fElse.length = 0) && nob
 else if s.fDo = 5 then free && localB f s && decide (0 ≤ s.fN ∧ s.fN < f.fHatches.length) && nob && zeroT s.fTerm
 else if s.fDo = 6 then free && last && decide (s.fVar = 0) && decide (s.fN = 0) && zeroT s.fTerm && (decide (1 ≤ s.fBounds.length ∧ s.fBounds.length ≤ 32) && decide ((0 : Int) ≤ s.fBounds[0]!) && riseB s.fBounds)
 else false
def numB (s : GStep) : Bool := decide (0 ≤ s.fCost ∧ s.fCost ≤ (if s.fDo = 2 then 67108864 else 10000)) && (if s.fDo = 4 then decide (0 ≤ s.fN ∧ s.fN ≤ 4096) else true) && (if s.fDo = 6 then decide (s.fBounds[s.fBounds.length - 1]! ≤ 67108864) else true)
def ownC (f : Flat) (last : Bool) (s : GStep) : Int := if shapeB f s last = false then 1 else if numB s = false then 3 else termC f.fVars false s.fTerm
def stepC (f : Flat) (top : Bool) : List GStep → Int
 | [] => 0
 | s :: l => if ownC f (top && l.isEmpty) s ≠ 0 then ownC f (top && l.isEmpty) s else if stepC f false s.fThen ≠ 0 then stepC f false s.fThen else if stepC f false s.fElse ≠ 0 then stepC f false s.fElse else stepC f top l
termination_by l => SizeOf.sizeOf l
decreasing_by
 all_goals first | exact (sizeOf_then (List.mem_cons_self ..)).1 | exact (sizeOf_then (List.mem_cons_self ..)).2 | exact size_tail _ _
def stC (f : Flat) (top : Bool) (n i : Nat) (s : GStep) : Int := if ownC f (top && decide (i + 1 = n)) s ≠ 0 then ownC f (top && decide (i + 1 = n)) s else if stepC f false s.fThen ≠ 0 then stepC f false s.fThen else stepC f false s.fElse
theorem stepC_first (f : Flat) (top : Bool) (n : Nat) : ∀ (l : List GStep) (i : Nat), i + l.length = n → firstC (stC f top n) l i = stepC f top l
 | [], i, _ => by rw [stepC]; rfl
 | s :: l, i, h => by
  have ih := stepC_first f top n l (i + 1) (by simp at h; omega)
  have he : l.isEmpty = decide (i + 1 = n) := by
   cases l with
   | nil => simp at h; simp [h]
   | cons a l => simp at h; simp; omega
  unfold firstC
  rw [stepC, ih, he]
  unfold stC
  grind
def uSs : List GStep → Int × Int × Int
 | [] => (0, 0, 0)
 | s :: l => match uSs s.fThen, uSs s.fElse, uSs l with
  | a, b, c => if s.fDo = 1 then (1 + c.1, 1 + c.2.1, s.fCost + c.2.2)
   else if s.fDo = 3 then (1 + max a.1 b.1 + c.1, max a.2.1 b.2.1 + c.2.1, s.fCost + max a.2.2 b.2.2 + c.2.2)
   else if s.fDo = 4 then (1 + s.fN * (1 + a.1) + c.1, s.fN * a.2.1 + c.2.1, s.fN * (s.fCost + a.2.2) + c.2.2)
   else (1 + c.1, c.2.1, s.fCost + c.2.2)
termination_by l => SizeOf.sizeOf l
decreasing_by
  · exact (sizeOf_then (List.mem_cons_self ..)).1
  · exact (sizeOf_then (List.mem_cons_self ..)).2
  · exact size_tail _ _
def overB (f : Flat) : Bool := decide (4096 < (uSs f.fBody).1 ∨ 8 < (uSs f.fBody).2.1 ∨ 67108864 < (uSs f.fBody).2.2)
def chk (f : Flat) : Int := if sizesB f = false then 4 else if varsC f.fVars ≠ 0 then varsC f.fVars else if firstC (hatC f) f.fHatches 0 ≠ 0 then firstC (hatC f) f.fHatches 0 else if stepC f true f.fBody ≠ 0 then stepC f true f.fBody else if overB f = true then 4 else 0
end Go.Proofs.YtnfljbehcffmcaaGreat
end
noncomputable section
set_option maxRecDepth 100000
namespace Go.Proofs.YtnfljbehcffmcaaGreat
open Go Go.Iv
open Go.IntKind (i64)
def F208 : Orc := or0
theorem F208_ok : OrcG Tryz.prog F208 := or0_g
abbrev E208 : Type := Bool × Measure
def d208 : Td 1 E208 := .c [] [2] (.r 1 1 (ec 2 qb en) (sb 0 256 (lg 256) sn) (fun z => (z.1.1, z.2.1)) (fun x => ((x.1, ()), (x.2, ()))) fun _ => rfl)
def A208 := (lc (qp 0 0) ln)
def B208 := (sb 0 256 (lg 256) sn)
def an208 : An := (.two .no (.two (.rb [] 2) .no))
theorem pu208  : ∀ f ∈ ([] : List Nat), PureF (F208) f := ob_nil
theorem fa208 : FnAn Tryz.prog (F208) 1 300 208 (an208) := fnAn_of (l := [(.skip, (.rb [] 2))]) Tryz.func208 (bodyOf_eq (by kernel_rfl)) (by kernel_rfl) (ob_cons pu208 ob_nil)
def m208 (b0 : Measure) : E208 :=
 let r1 : Bool := bif b0.fDeep then true else decide (1024 < b0.fNodes); (r1, b0)
theorem c208 (b0 : Measure) : callR Tryz.prog (F208) 300 (an208) 208 (A208.c ((), ())) (B208.d (b0, ())) 1 d208.rd = some (m208 b0) := by
 refine Eq.trans (b := (
  match bif b0.fDeep then some (true) else some (decide (1024 < b0.fNodes)) with | none => none | some r1 => some ((r1, b0)) : Option E208)) (by kernel_rfl) ?_
 simp only [m208, cond_some, ite_some]
def e208 : Orc → Orc := eY Tryz.prog 208 1 A208 B208 d208 (fun g => some (m208 g.2.1))
theorem e208_ok {F : Orc} (h : OrcG Tryz.prog F) : OrcG Tryz.prog (e208 F) := eY_ok (hy_of F208_ok fa208 (fun _ => by kernel_rfl) (fun _ => by kernel_rfl) (fun _ => by kernel_rfl) fun g => c208 g.2.1) ⟨_, Tryz.func208, by kernel_rfl, by kernel_rfl⟩ (fun _ => by kernel_rfl) h
abbrev E209 : Type := Measure
def d209 : Td 1 E209 := .c [] [] (.r 1 1 en (sb 0 256 (lg 256) sn) (fun z => z.2.1) (fun x => ((()), (x, ()))) fun _ => rfl)
def A209 := (lc (qp 0 0) (lc (qg 137) (lc (qi .i64) ln)))
def B209 := (sb 0 256 (lg 256) sn)
def x209 (M : GTerm → Int → Measure → Option E209) : Orc → Orc := eY Tryz.prog 209 1 A209 B209 d209 (fun g => M g.1.2.1 g.1.2.2.1 g.2.1)
def H209 (M : GTerm → Int → Measure → Option E209) : Prop := HY Tryz.prog 209 1 A209 B209 d209 (fun g => M g.1.2.1 g.1.2.2.1 g.2.1)
theorem x209_ok {M : GTerm → Int → Measure → Option E209} (hM : H209 M) {F : Orc} (h : OrcG Tryz.prog F) : OrcG Tryz.prog (x209 M F) := eY_ok hM ⟨_, Tryz.func209, by kernel_rfl, by kernel_rfl⟩ (fun _ => by kernel_rfl) h
def F209 (M209 : GTerm → Int → Measure → Option E209) : Orc := (x209 M209 (e208 or0))
theorem F209_ok {M209} (h209 : H209 M209) : OrcG Tryz.prog (F209 M209) := (x209_ok h209 (e208_ok or0_g))
structure L209_0 where
 t2 : Int
 t29 : List GTerm
 t30 : Int
 t31 : Int
 b0 : Measure
def d209_0 : Td 1 L209_0 := .c [] [0, 2, 29, 30, 31] (.r 1 1 (ec 0 (qp 0 0) (ec 2 (qi .i64) (ec 29 (ql 137) (ec 30 (qi .i64) (ec 31 (qi .i64) en))))) (sb 0 256 (lg 256) sn) (fun z => ⟨z.1.2.1, z.1.2.2.1, z.1.2.2.2.1, z.1.2.2.2.2.1, z.2.1⟩) (fun x => (((), x.t2, x.t29, x.t30, x.t31, ()), (x.b0, ()))) fun _ => rfl)
def n209_0 (M209 : GTerm → Int → Measure → Option E209) (p : L209_0) : Option (Option L209_0) :=
 bif decide (p.t31 < p.t30) then if (0 : Int) ≤ p.t31 ∧ p.t31 < (↑p.t29.length : Int) then match M209 (GTerm.mk p.t29[p.t31.toNat]!.fOp p.t29[p.t31.toNat]!.fN p.t29[p.t31.toNat]!.fKids) (i64.wrap (p.t2 + 1)) p.b0 with | none => none | some r1 => some (some (L209_0.mk p.t2 p.t29 p.t30 (i64.wrap (p.t31 + 1)) r1)) else none else some (none)
theorem q209_0 (M209 : GTerm → Int → Measure → Option E209) (p : L209_0) : execA Tryz.prog (F209 M209) Tryz.f209.ntmps 300 (loopAt Tryz.f209 0) .no (Option L209_0) (d209_0.pat p) (kOn d209_0.rd) = n209_0 M209 p := by kernel_rfl
def a209_0 (M209 : GTerm → Int → Measure → Option E209) : L209_0 → Option L209_0 := advG (n209_0 M209)
def an209 (M209 : GTerm → Int → Measure → Option E209) : An := (.two .no (.two .no (.two .no (.two .no (.two .no (d209_0.lp (a209_0 M209) .no))))))
theorem fa209 (M209 : GTerm → Int → Measure → Option E209) : FnAn Tryz.prog (F209 M209) 1 300 209 (an209 M209) := fnAn_of (l := [(loopAt Tryz.f209 0, (d209_0.lp (a209_0 M209) .no))]) Tryz.func209 (bodyOf_eq (by kernel_rfl)) (by kernel_rfl) (ob_cons ⟨d209_0.ok _, advG_ok (q209_0 M209)⟩ ob_nil)
def s209 (M209 : GTerm → Int → Measure → Option E209) (a1 : GTerm) (a2 : Int) (b0 : Measure) : Option E209 :=
 bif b0.fDeep then bif (m208 (Measure.mk (i64.wrap (b0.fNodes + 1)) true)).fst then some ((m208 (Measure.mk (i64.wrap (b0.fNodes + 1)) true)).snd) else match a209_0 M209 (L209_0.mk a2 a1.fKids (↑a1.fKids.length : Int) (0) (m208 (Measure.mk (i64.wrap (b0.fNodes + 1)) true)).snd) with | none => none | some r2 => bif decide (r2.t31 < r2.t30) then if (0 : Int) ≤ r2.t31 ∧ r2.t31 < (↑r2.t29.length : Int) then match M209 (GTerm.mk r2.t29[r2.t31.toNat]!.fOp r2.t29[r2.t31.toNat]!.fN r2.t29[r2.t31.toNat]!.fKids) (i64.wrap (r2.t2 + 1)) r2.b0 with | none => none | some r3 => none else none else some (r2.b0) else bif (m208 (Measure.mk (i64.wrap (b0.fNodes + 1)) (decide (12 < a2)))).fst then some ((m208 (Measure.mk (i64.wrap (b0.fNodes + 1)) (decide (12 < a2)))).snd) else match a209_0 M209 (L209_0.mk a2 a1.fKids (↑a1.fKids.length : Int) (0) (m208 (Measure.mk (i64.wrap (b0.fNodes + 1)) (decide (12 < a2)))).snd) with | none => none | some r4 => bif decide (r4.t31 < r4.t30) then if (0 : Int) ≤ r4.t31 ∧ r4.t31 < (↑r4.t29.length : Int) then match M209 (GTerm.mk r4.t29[r4.t31.toNat]!.fOp r4.t29[r4.t31.toNat]!.fN r4.t29[r4.t31.toNat]!.fKids) (i64.wrap (r4.t2 + 1)) r4.b0 with | none => none | some r5 => none else none else some (r4.b0)
theorem c209 (M209 : GTerm → Int → Measure → Option E209) (a1 : GTerm) (a2 : Int) (b0 : Measure) : callR Tryz.prog (F209 M209) 300 (an209 M209) 209 (A209.c ((), a1, a2, ())) (B209.d (b0, ())) 1 d209.rd = s209 M209 a1 a2 b0 := by kernel_rfl
def mm209 : Nat → (GTerm → Int → Measure → Option E209)
 | 0 => (fun _ _ _ => none)
 | n + 1 => (s209 (mm209 n))
def m209 (n : Nat) : GTerm → Int → Measure → Option E209 := (mm209 n)
theorem mm209_ok : ∀ n, H209 (m209 n)
 | 0 => fun _ _ h => (by cases h)
 | n + 1 => by
  have ih := mm209_ok n
  have i209 := ih
  exact (hy_of (F209_ok i209) (fa209 (m209 n)) (fun _ => by kernel_rfl) (fun _ => by kernel_rfl) (fun _ => by kernel_rfl) fun g => c209 (m209 n) g.1.2.1 g.1.2.2.1 g.2.1)
def r209 : GTerm → Int → Measure → Option E209 := fun a1 a2 b0 => lim (fun n => m209 n a1 a2 b0)
theorem r209_ok : H209 r209 := fun g b h => by
 obtain ⟨n, hn⟩ := lim_some (show lim (fun n => m209 n g.1.2.1 g.1.2.2.1 g.2.1) = some b from h)
 exact (mm209_ok n) g b hn
def e209 (F : Orc) : Orc := x209 r209 F
theorem e209_ok {F : Orc} (h : OrcG Tryz.prog F) : OrcG Tryz.prog (e209 F) := x209_ok r209_ok h
abbrev E207 : Type := Measure
def d207 : Td 1 E207 := .c [] [] (.r 1 1 en (sb 0 256 (lg 256) sn) (fun z => z.2.1) (fun x => ((()), (x, ()))) fun _ => rfl)
def A207 := (lc (qp 0 0) (lc (ql 166) (lc (qi .i64) ln)))
def B207 := (sb 0 256 (lg 256) sn)
def x207 (M : (List GStep) → Int → Measure → Option E207) : Orc → Orc := eY Tryz.prog 207 1 A207 B207 d207 (fun g => M g.1.2.1 g.1.2.2.1 g.2.1)
def H207 (M : (List GStep) → Int → Measure → Option E207) : Prop := HY Tryz.prog 207 1 A207 B207 d207 (fun g => M g.1.2.1 g.1.2.2.1 g.2.1)
theorem x207_ok {M : (List GStep) → Int → Measure → Option E207} (hM : H207 M) {F : Orc} (h : OrcG Tryz.prog F) : OrcG Tryz.prog (x207 M F) := eY_ok hM ⟨_, Tryz.func207, by kernel_rfl, by kernel_rfl⟩ (fun _ => by kernel_rfl) h
def F207 (M207 : (List GStep) → Int → Measure → Option E207) : Orc := (e209 (e208 (x207 M207 or0)))
theorem F207_ok {M207} (h207 : H207 M207) : OrcG Tryz.prog (F207 M207) := (e209_ok (e208_ok (x207_ok h207 or0_g)))
structure L207_0 where
 t2 : Int
 t8 : List GStep
 t9 : Int
 t10 : Int
 b0 : Measure
def d207_0 : Td 1 L207_0 := .c [] [0, 2, 8, 9, 10] (.r 1 1 (ec 0 (qp 0 0) (ec 2 (qi .i64) (ec 8 (ql 166) (ec 9 (qi .i64) (ec 10 (qi .i64) en))))) (sb 0 256 (lg 256) sn) (fun z => ⟨z.1.2.1, z.1.2.2.1, z.1.2.2.2.1, z.1.2.2.2.2.1, z.2.1⟩) (fun x => (((), x.t2, x.t8, x.t9, x.t10, ()), (x.b0, ()))) fun _ => rfl)
def n207_0 (M207 : (List GStep) → Int → Measure → Option E207) (p : L207_0) : Option (Option L207_0) :=
 bif decide (p.t10 < p.t9) then if (0 : Int) ≤ p.t10 ∧ p.t10 < (↑p.t8.length : Int) then bif p.b0.fDeep then bif (m208 (Measure.mk (i64.wrap (p.b0.fNodes + 1)) true)).fst then some (none) else match r209 (GTerm.mk p.t8[p.t10.toNat]!.fTerm.fOp p.t8[p.t10.toNat]!.fTerm.fN p.t8[p.t10.toNat]!.fTerm.fKids) (1) (m208 (Measure.mk (i64.wrap (p.b0.fNodes + 1)) true)).snd with | none => none | some r1 => match M207 p.t8[p.t10.toNat]!.fThen (i64.wrap (p.t2 + 1)) r1 with | none => none | some r2 => match M207 p.t8[p.t10.toNat]!.fElse (i64.wrap (p.t2 + 1)) r2 with | none => none | some r3 => some (some (L207_0.mk p.t2 p.t8 p.t9 (i64.wrap (p.t10 + 1)) r3)) else bif (m208 (Measure.mk (i64.wrap (p.b0.fNodes + 1)) (decide (12 < (((), p.t2, p.t8, p.t9, p.t10, ()), p.b0, ()).fst.snd.fst)))).fst then some (none) else match r209 (GTerm.mk p.t8[p.t10.toNat]!.fTerm.fOp p.t8[p.t10.toNat]!.fTerm.fN p.t8[p.t10.toNat]!.fTerm.fKids) (1) (m208 (Measure.mk (i64.wrap (p.b0.fNodes + 1)) (decide (12 < (((), p.t2, p.t8, p.t9, p.t10, ()), p.b0, ()).fst.snd.fst)))).snd with | none => none | some r4 => match M207 p.t8[p.t10.toNat]!.fThen (i64.wrap (p.t2 + 1)) r4 with | none => none | some r5 => match M207 p.t8[p.t10.toNat]!.fElse (i64.wrap (p.t2 + 1)) r5 with | none => none | some r6 => some (some (L207_0.mk p.t2 p.t8 p.t9 (i64.wrap (p.t10 + 1)) r6)) else none else some (none)
theorem q207_0 (M207 : (List GStep) → Int → Measure → Option E207) (p : L207_0) : execA Tryz.prog (F207 M207) Tryz.f207.ntmps 300 (loopAt Tryz.f207 0) .no (Option L207_0) (d207_0.pat p) (kOn d207_0.rd) = n207_0 M207 p := by kernel_rfl
def a207_0 (M207 : (List GStep) → Int → Measure → Option E207) : L207_0 → Option L207_0 := advG (n207_0 M207)
def an207 (M207 : (List GStep) → Int → Measure → Option E207) : An := (.two .no (d207_0.lp (a207_0 M207) .no))
theorem fa207 (M207 : (List GStep) → Int → Measure → Option E207) : FnAn Tryz.prog (F207 M207) 1 300 207 (an207 M207) := fnAn_of (l := [(loopAt Tryz.f207 0, (d207_0.lp (a207_0 M207) .no))]) Tryz.func207 (bodyOf_eq (by kernel_rfl)) (by kernel_rfl) (ob_cons ⟨d207_0.ok _, advG_ok (q207_0 M207)⟩ ob_nil)
def s207 (M207 : (List GStep) → Int → Measure → Option E207) (a1 : List GStep) (a2 : Int) (b0 : Measure) : Option E207 :=
 match a207_0 M207 (L207_0.mk a2 a1 (↑a1.length : Int) (0) b0) with | none => none | some r7 => bif decide (r7.t10 < r7.t9) then if (0 : Int) ≤ r7.t10 ∧ r7.t10 < (↑r7.t8.length : Int) then bif r7.b0.fDeep then bif (m208 (Measure.mk (i64.wrap (r7.b0.fNodes + 1)) true)).fst then some ((m208 (Measure.mk (i64.wrap (r7.b0.fNodes + 1)) true)).snd) else match r209 (GTerm.mk r7.t8[r7.t10.toNat]!.fTerm.fOp r7.t8[r7.t10.toNat]!.fTerm.fN r7.t8[r7.t10.toNat]!.fTerm.fKids) (1) (m208 (Measure.mk (i64.wrap (r7.b0.fNodes + 1)) true)).snd with | none => none | some r8 => match M207 r7.t8[r7.t10.toNat]!.fThen (i64.wrap (r7.t2 + 1)) r8 with | none => none | some r9 => match M207 r7.t8[r7.t10.toNat]!.fElse (i64.wrap (r7.t2 + 1)) r9 with | none => none | some r10 => none else bif (m208 (Measure.mk (i64.wrap (r7.b0.fNodes + 1)) (decide (12 < (((), r7.t2, r7.t8, r7.t9, r7.t10, ()), r7.b0, ()).fst.snd.fst)))).fst then some ((m208 (Measure.mk (i64.wrap (r7.b0.fNodes + 1)) (decide (12 < (((), r7.t2, r7.t8, r7.t9, r7.t10, ()), r7.b0, ()).fst.snd.fst)))).snd) else match r209 (GTerm.mk r7.t8[r7.t10.toNat]!.fTerm.fOp r7.t8[r7.t10.toNat]!.fTerm.fN r7.t8[r7.t10.toNat]!.fTerm.fKids) (1) (m208 (Measure.mk (i64.wrap (r7.b0.fNodes + 1)) (decide (12 < (((), r7.t2, r7.t8, r7.t9, r7.t10, ()), r7.b0, ()).fst.snd.fst)))).snd with | none => none | some r11 => match M207 r7.t8[r7.t10.toNat]!.fThen (i64.wrap (r7.t2 + 1)) r11 with | none => none | some r12 => match M207 r7.t8[r7.t10.toNat]!.fElse (i64.wrap (r7.t2 + 1)) r12 with | none => none | some r13 => none else none else some (r7.b0)
theorem c207 (M207 : (List GStep) → Int → Measure → Option E207) (a1 : List GStep) (a2 : Int) (b0 : Measure) : callR Tryz.prog (F207 M207) 300 (an207 M207) 207 (A207.c ((), a1, a2, ())) (B207.d (b0, ())) 1 d207.rd = s207 M207 a1 a2 b0 := by kernel_rfl
def mm207 : Nat → ((List GStep) → Int → Measure → Option E207)
 | 0 => (fun _ _ _ => none)
 | n + 1 => (s207 (mm207 n))
def m207 (n : Nat) : (List GStep) → Int → Measure → Option E207 := (mm207 n)
theorem mm207_ok : ∀ n, H207 (m207 n)
 | 0 => fun _ _ h => (by cases h)
 | n + 1 => by
  have ih := mm207_ok n
  have i207 := ih
  exact (hy_of (F207_ok i207) (fa207 (m207 n)) (fun _ => by kernel_rfl) (fun _ => by kernel_rfl) (fun _ => by kernel_rfl) fun g => c207 (m207 n) g.1.2.1 g.1.2.2.1 g.2.1)
def r207 : (List GStep) → Int → Measure → Option E207 := fun a1 a2 b0 => lim (fun n => m207 n a1 a2 b0)
theorem r207_ok : H207 r207 := fun g b h => by
 obtain ⟨n, hn⟩ := lim_some (show lim (fun n => m207 n g.1.2.1 g.1.2.2.1 g.2.1) = some b from h)
 exact (mm207_ok n) g b hn
def e207 (F : Orc) : Orc := x207 r207 F
theorem e207_ok {F : Orc} (h : OrcG Tryz.prog F) : OrcG Tryz.prog (e207 F) := x207_ok r207_ok h
def F260 : Orc := or0
theorem F260_ok : OrcG Tryz.prog F260 := or0_g
abbrev E260 : Type := Bool
def d260 : Td 0 E260 := .c [] [3] (.r 0 0 (ec 3 qb en) sn (fun z => z.1.1) (fun x => ((x, ()), (()))) fun _ => rfl)
def A260 := (lc (qg 131) (lc (qr (lg 131)) ln))
def an260 : An := .no
theorem fa260 : FnAn Tryz.prog (F260) 0 300 260 (an260) := fnAn_of (l := []) Tryz.func260 (bodyOf_eq (by kernel_rfl)) (by kernel_rfl) ob_nil
def m260 (a0 : GVar) (c0 : GVar) : E260 :=
 a0.fName.toList == c0.fName.toList
theorem c260 (a0 : GVar) (c0 : GVar) : callR Tryz.prog (F260) 300 (an260) 260 (A260.c (a0, c0, ())) [] 0 d260.rd = some (m260 a0 c0) := by kernel_rfl
def e260 : Orc → Orc := eL Tryz.prog 260 false A260 d260 (fun g => some (m260 g.1 g.2.1))
theorem e260_ok {F : Orc} (h : OrcG Tryz.prog F) : OrcG Tryz.prog (e260 F) := eL_ok (sc := scU) scU_ok (hl_of F260_ok fa260 (fun _ => by kernel_rfl) (fun _ => by kernel_rfl) fun g => c260 g.1 g.2.1) ⟨_, Tryz.func260, by kernel_rfl, by kernel_rfl⟩ (fun _ => by kernel_rfl) (fun _ => by kernel_rfl) h
def F261 : Orc := or0
theorem F261_ok : OrcG Tryz.prog F261 := or0_g
structure L261_0 where
 t0 : ByteArray
 t14 : Int
 t15 : Int
def d261_0 : Td 0 L261_0 := .c [] [0, 14, 15] (.r 0 0 (ec 0 qs (ec 14 (qi .i64) (ec 15 (qi .i64) en))) sn (fun z => ⟨z.1.1, z.1.2.1, z.1.2.2.1⟩) (fun x => ((x.t0, x.t14, x.t15, ()), (()))) fun _ => rfl)
def n261_0 (p : L261_0) : Option (Option L261_0) :=
 bif decide (p.t15 < p.t14) then if (0 : Int) ≤ p.t15 ∧ p.t15 < (↑p.t0.size : Int) then match bif decide (97 ≤ byteAt p.t0 p.t15.toNat) then some (decide (byteAt p.t0 p.t15.toNat ≤ 122)) else some (false) with | none => none | some r1 => match bif bif r1 then false else true then bif decide (p.t15 = 0) then some (true) else bif decide (byteAt p.t0 p.t15.toNat < 48) then bif bif decide (byteAt p.t0 p.t15.toNat = 46) then false else true then some (bif decide (byteAt p.t0 p.t15.toNat = 95) then false else true) else some (false) else bif decide (57 < byteAt p.t0 p.t15.toNat) then bif bif decide (byteAt p.t0 p.t15.toNat = 46) then false else true then some (bif decide (byteAt p.t0 p.t15.toNat = 95) then false else true) else some (false) else some (false) else some (false) with | none => none | some r2 => bif r2 then some (none) else some (some (L261_0.mk p.t0 p.t14 (i64.wrap (p.t15 + 1)))) else none else some (none)
def g261_0 : An := (.two .no (.two .no (.two (.two .no (.two .no (.two (.rb [] 5) (.two (.rb [] 48) .no)))) .no)))
theorem q261_0 (p : L261_0) : execA Tryz.prog (F261) Tryz.f261.ntmps 300 (loopAt Tryz.f261 0) g261_0 (Option L261_0) (d261_0.pat p) (kOn d261_0.rd) = n261_0 p := by kernel_rfl
def a261_0 : L261_0 → Option L261_0 := advG (n261_0)
abbrev E261 : Type := Bool
def d261 : Td 0 E261 := .c [] [2] (.r 0 0 (ec 2 qb en) sn (fun z => z.1.1) (fun x => ((x, ()), (()))) fun _ => rfl)
def A261 := (lc qs ln)
def an261 : An := (.two .no (.two (.two (.rb [] 12) .no) (.two (.two .no (d261_0.lp a261_0 g261_0)) .no)))
theorem pu261  : ∀ f ∈ ([] : List Nat), PureF (F261) f := ob_nil
theorem fa261 : FnAn Tryz.prog (F261) 0 300 261 (an261) := fnAn_of (l := [(.skip, (.rb [] 12)), (loopAt Tryz.f261 0, (d261_0.lp a261_0 g261_0)), (.skip, (.rb [] 5)), (.skip, (.rb [] 48))]) Tryz.func261 (bodyOf_eq (by kernel_rfl)) (by kernel_rfl) (ob_cons pu261 (ob_cons ⟨d261_0.ok _, advG_ok (q261_0)⟩ (ob_cons pu261 (ob_cons pu261 ob_nil))))
def m261 (a0 : ByteArray) : Option E261 :=
 match bif a0.toList == (ByteArray.mk (Array.mk [])).toList then some (true) else some (decide (40 < (↑a0.size : Int))) with | none => none | some r3 => bif r3 then some (false) else match a261_0 (L261_0.mk a0 (↑a0.size : Int) (0)) with | none => none | some r4 => bif decide (r4.t15 < r4.t14) then if (0 : Int) ≤ r4.t15 ∧ r4.t15 < (↑r4.t0.size : Int) then match bif decide (97 ≤ byteAt r4.t0 r4.t15.toNat) then some (decide (byteAt r4.t0 r4.t15.toNat ≤ 122)) else some (false) with | none => none | some r5 => match bif bif r5 then false else true then bif decide (r4.t15 = 0) then some (true) else bif decide (byteAt r4.t0 r4.t15.toNat < 48) then bif bif decide (byteAt r4.t0 r4.t15.toNat = 46) then false else true then some (bif decide (byteAt r4.t0 r4.t15.toNat = 95) then false else true) else some (false) else bif decide (57 < byteAt r4.t0 r4.t15.toNat) then bif bif decide (byteAt r4.t0 r4.t15.toNat = 46) then false else true then some (bif decide (byteAt r4.t0 r4.t15.toNat = 95) then false else true) else some (false) else some (false) else some (false) with | none => none | some r6 => bif r6 then some (false) else none else none else some (true)
theorem c261 (a0 : ByteArray) : callR Tryz.prog (F261) 300 (an261) 261 (A261.c (a0, ())) [] 0 d261.rd = m261 a0 := by kernel_rfl
def e261 : Orc → Orc := eL Tryz.prog 261 false A261 d261 (fun g => m261 g.1)
theorem e261_ok {F : Orc} (h : OrcG Tryz.prog F) : OrcG Tryz.prog (e261 F) := eL_ok (sc := scU) scU_ok (hl_of F261_ok fa261 (fun _ => by kernel_rfl) (fun _ => by kernel_rfl) fun g => c261 g.1) ⟨_, Tryz.func261, by kernel_rfl, by kernel_rfl⟩ (fun _ => by kernel_rfl) (fun _ => by kernel_rfl) h
def F303 : Orc := (e260 or0)
theorem F303_ok : OrcG Tryz.prog F303 := (e260_ok or0_g)
structure L303_0 where
 t0 : List GVar
 t1_0_0 : ByteArray
 t1_0_1 : Int
 t1_0_2 : Int
 t1_0_3 : Int
 t1_0_4 : Int
 t7 : Int
 t8 : Int
def d303_0 : Td 0 L303_0 := .c [] [0, 1, 7, 8] (.r 0 0 (ec 0 (ql 131) (ec 1 (qf 260 (lc (qr (lc qs (lc (qi .i64) (lc (qi .i64) (lc (qi .i64) (lc (qi .i64) ln)))))) ln)) (ec 7 (qi .i64) (ec 8 (qi .i64) en)))) sn (fun z => ⟨z.1.1, z.1.2.1.1.1, z.1.2.1.1.2.1, z.1.2.1.1.2.2.1, z.1.2.1.1.2.2.2.1, z.1.2.1.1.2.2.2.2.1, z.1.2.2.1, z.1.2.2.2.1⟩) (fun x => ((x.t0, ((x.t1_0_0, x.t1_0_1, x.t1_0_2, x.t1_0_3, x.t1_0_4, ()), ()), x.t7, x.t8, ()), (()))) fun _ => rfl)
def n303_0 (p : L303_0) : Option (Option L303_0) :=
 bif decide (p.t8 < p.t7) then if (0 : Int) ≤ p.t8 ∧ p.t8 < (↑p.t0.length : Int) then bif m260 p.t0[p.t8.toNat]! (GVar.mk p.t1_0_0 p.t1_0_1 p.t1_0_2 p.t1_0_3 p.t1_0_4) then some (none) else some (some (L303_0.mk p.t0 p.t1_0_0 p.t1_0_1 p.t1_0_2 p.t1_0_3 p.t1_0_4 p.t7 (i64.wrap (p.t8 + 1)))) else none else some (none)
theorem q303_0 (p : L303_0) : execA Tryz.prog (F303) Tryz.f303.ntmps 300 (loopAt Tryz.f303 0) .no (Option L303_0) (d303_0.pat p) (kOn d303_0.rd) = n303_0 p := by kernel_rfl
def a303_0 : L303_0 → Option L303_0 := advG (n303_0)
abbrev E303 : Type := Int
def d303 : Td 0 E303 := .c [] [4] (.r 0 0 (ec 4 (qi .i64) en) sn (fun z => z.1.1) (fun x => ((x, ()), (()))) fun _ => rfl)
def A303 := (lc (ql 131) (lc (qf 260 (lc (qr (lg 131)) ln)) ln))
def an303 : An := (.two .no (.two (.two .no (d303_0.lp a303_0 .no)) .no))
theorem fa303 : FnAn Tryz.prog (F303) 0 300 303 (an303) := fnAn_of (l := [(loopAt Tryz.f303 0, (d303_0.lp a303_0 .no))]) Tryz.func303 (bodyOf_eq (by kernel_rfl)) (by kernel_rfl) (ob_cons ⟨d303_0.ok _, advG_ok (q303_0)⟩ ob_nil)
def m303 (a0 : List GVar) (a1_0 : GVar) : Option E303 :=
 match a303_0 (L303_0.mk a0 a1_0.fName a1_0.fKind a1_0.fLow a1_0.fHigh a1_0.fInit (↑a0.length : Int) (0)) with | none => none | some r1 => bif decide (r1.t8 < r1.t7) then if (0 : Int) ≤ r1.t8 ∧ r1.t8 < (↑r1.t0.length : Int) then bif m260 r1.t0[r1.t8.toNat]! (GVar.mk r1.t1_0_0 r1.t1_0_1 r1.t1_0_2 r1.t1_0_3 r1.t1_0_4) then some (r1.t8) else none else none else some (-1)
theorem c303 (a0 : List GVar) (a1_0 : GVar) : callR Tryz.prog (F303) 300 (an303) 303 (A303.c (a0, (a1_0, ()), ())) [] 0 d303.rd = m303 a0 a1_0 := by kernel_rfl
def e303 : Orc → Orc := eL Tryz.prog 303 true A303 d303 (fun g => m303 g.1 g.2.1.1)
theorem e303_ok {F : Orc} (h : OrcG Tryz.prog F) : OrcG Tryz.prog (e303 F) := eL_ok (sc := scU) scU_ok (hl_of F303_ok fa303 (fun _ => by kernel_rfl) (fun _ => by kernel_rfl) fun g => c303 g.1 g.2.1.1) ⟨_, Tryz.func303, by kernel_rfl, by kernel_rfl⟩ (fun _ => by kernel_rfl) (fun _ => by kernel_rfl) h
def F262 : Orc := (e303 (e260 or0))
theorem F262_ok : OrcG Tryz.prog F262 := (e303_ok (e260_ok or0_g))
abbrev E262 : Type := Bool
def d262 : Td 0 E262 := .c [] [4] (.r 0 0 (ec 4 qb en) sn (fun z => z.1.1) (fun x => ((x, ()), (()))) fun _ => rfl)
def A262 := (lc (ql 131) (lc (qf 260 (lc (qr (lg 131)) ln)) ln))
def an262 : An := .no
theorem fa262 : FnAn Tryz.prog (F262) 0 300 262 (an262) := fnAn_of (l := []) Tryz.func262 (bodyOf_eq (by kernel_rfl)) (by kernel_rfl) ob_nil
def m262 (a0 : List GVar) (a1_0 : GVar) : Option E262 :=
 match m303 a0 a1_0 with | none => none | some r1 => some (decide (0 ≤ r1))
theorem c262 (a0 : List GVar) (a1_0 : GVar) : callR Tryz.prog (F262) 300 (an262) 262 (A262.c (a0, (a1_0, ()), ())) [] 0 d262.rd = m262 a0 a1_0 := by kernel_rfl
def e262 : Orc → Orc := eL Tryz.prog 262 true A262 d262 (fun g => m262 g.1 g.2.1.1)
theorem e262_ok {F : Orc} (h : OrcG Tryz.prog F) : OrcG Tryz.prog (e262 F) := eL_ok (sc := scU) scU_ok (hl_of F262_ok fa262 (fun _ => by kernel_rfl) (fun _ => by kernel_rfl) fun g => c262 g.1 g.2.1.1) ⟨_, Tryz.func262, by kernel_rfl, by kernel_rfl⟩ (fun _ => by kernel_rfl) (fun _ => by kernel_rfl) h
def F263 : Orc := or0
theorem F263_ok : OrcG Tryz.prog F263 := or0_g
abbrev E263 : Type := Bool
def d263 : Td 0 E263 := .c [] [4] (.r 0 0 (ec 4 qb en) sn (fun z => z.1.1) (fun x => ((x, ()), (()))) fun _ => rfl)
def A263 := (lc (qi .i64) (lc (qi .i64) ln))
def an263 : An := (.two .no (.two (.rb [] 4) .no))
theorem pu263  : ∀ f ∈ ([] : List Nat), PureF (F263) f := ob_nil
theorem fa263 : FnAn Tryz.prog (F263) 0 300 263 (an263) := fnAn_of (l := [(.skip, (.rb [] 4))]) Tryz.func263 (bodyOf_eq (by kernel_rfl)) (by kernel_rfl) (ob_cons pu263 ob_nil)
def m263 (a0 : Int) (a1 : Int) : E263 :=
 let r1 : Bool := bif decide (a0 ≤ a1) then bif decide (-1048576 ≤ a0) then decide (a1 ≤ 1048576) else false else false; r1
theorem c263 (a0 : Int) (a1 : Int) : callR Tryz.prog (F263) 300 (an263) 263 (A263.c (a0, a1, ())) [] 0 d263.rd = some (m263 a0 a1) := by
 refine Eq.trans (b := (
  match bif decide (a0 ≤ a1) then bif decide (-1048576 ≤ a0) then some (decide (a1 ≤ 1048576)) else some (false) else some (false) with | none => none | some r1 => some (r1) : Option E263)) (by kernel_rfl) ?_
 simp only [m263, cond_some, ite_some]
def e263 : Orc → Orc := eL Tryz.prog 263 false A263 d263 (fun g => some (m263 g.1 g.2.1))
theorem e263_ok {F : Orc} (h : OrcG Tryz.prog F) : OrcG Tryz.prog (e263 F) := eL_ok (sc := scU) scU_ok (hl_of F263_ok fa263 (fun _ => by kernel_rfl) (fun _ => by kernel_rfl) fun g => c263 g.1 g.2.1) ⟨_, Tryz.func263, by kernel_rfl, by kernel_rfl⟩ (fun _ => by kernel_rfl) (fun _ => by kernel_rfl) h
def F337 : Orc := or0
theorem F337_ok : OrcG Tryz.prog F337 := or0_g
abbrev E337 : Type := Int
def d337 : Td 0 E337 := .c [] [2] (.r 0 0 (ec 2 (qi .i64) en) sn (fun z => z.1.1) (fun x => ((x, ()), (()))) fun _ => rfl)
def A337 := (lc (qg 131) ln)
def an337 : An := .no
theorem fa337 : FnAn Tryz.prog (F337) 0 300 337 (an337) := fnAn_of (l := []) Tryz.func337 (bodyOf_eq (by kernel_rfl)) (by kernel_rfl) ob_nil
def m337 (a0 : GVar) : E337 :=
 i64.wrap (i64.wrap (a0.fHigh - a0.fLow) + 1)
theorem c337 (a0 : GVar) : callR Tryz.prog (F337) 300 (an337) 337 (A337.c (a0, ())) [] 0 d337.rd = some (m337 a0) := by kernel_rfl
def e337 : Orc → Orc := eL Tryz.prog 337 false A337 d337 (fun g => some (m337 g.1))
theorem e337_ok {F : Orc} (h : OrcG Tryz.prog F) : OrcG Tryz.prog (e337 F) := eL_ok (sc := scU) scU_ok (hl_of F337_ok fa337 (fun _ => by kernel_rfl) (fun _ => by kernel_rfl) fun g => c337 g.1) ⟨_, Tryz.func337, by kernel_rfl, by kernel_rfl⟩ (fun _ => by kernel_rfl) (fun _ => by kernel_rfl) h
def F304 : Orc := (e337 or0)
theorem F304_ok : OrcG Tryz.prog F304 := (e337_ok or0_g)
structure L304_1 where
 t7 : List GVar
 t10 : Int
 t49 : List GVar
 t50 : Int
 t51 : Int
def d304_1 : Td 0 L304_1 := .c [] [7, 10, 49, 50, 51] (.r 0 1 (ec 7 (qo 0) (ec 10 (qi .i64) (ec 49 (qo 0) (ec 50 (qi .i64) (ec 51 (qi .i64) en))))) (sr 0 131 sn) (fun z => ⟨z.2.1, z.1.2.1, z.2.1, z.1.2.2.2.1, z.1.2.2.2.2.1⟩) (fun x => (((), x.t10, (), x.t50, x.t51, ()), (x.t49, ()))) fun _ => rfl)
def n304_1 (p : L304_1) : Option (Option L304_1) :=
 bif decide (p.t51 < p.t50) then if (0 : Int) ≤ p.t51 ∧ p.t51 < (↑p.t49.length : Int) then if 131 = 131 ∧ p.t51.toNat < p.t49.length then bif decide (4096 < i64.wrap (p.t10 * m337 p.t49[p.t51.toNat]!)) then some (none) else some (some (L304_1.mk p.t49 (i64.wrap (p.t10 * m337 p.t49[p.t51.toNat]!)) p.t49 p.t50 (i64.wrap (p.t51 + 1)))) else none else none else some (none)
theorem q304_1 (p : L304_1) : execA Tryz.prog (F304) Tryz.f304.ntmps 300 (loopAt Tryz.f304 1) .no (Option L304_1) (d304_1.pat p) (kOn d304_1.rd) = n304_1 p := by kernel_rfl
def a304_1 : L304_1 → Option L304_1 := advG (n304_1)
structure L304_0 where
 t1 : Int
 t7 : List GVar
 t19 : List GVar
 t20 : Int
 t21 : Int
def d304_0 : Td 0 L304_0 := .c [] [1, 7, 19, 20, 21] (.t (TurnOk.s 7 [] 131) (.c [] [1, 7, 19, 20, 21] (.r 0 1 (ec 1 (qi .i64) (ec 7 (qo 0) (ec 19 (ql 131) (ec 20 (qi .i64) (ec 21 (qi .i64) en))))) (sr 0 131 sn) (fun z => ⟨z.1.1, z.2.1, z.1.2.2.1, z.1.2.2.2.1, z.1.2.2.2.2.1⟩) (fun x => ((x.t1, (), x.t19, x.t20, x.t21, ()), (x.t7, ()))) fun _ => rfl)))
def n304_0 (p : L304_0) : Option (Option L304_0) :=
 bif decide (p.t21 < p.t20) then if (0 : Int) ≤ p.t21 ∧ p.t21 < (↑p.t19.length : Int) then bif bif decide (p.t19[p.t21.toNat]!.fKind = p.t1) then false else true then some (some (L304_0.mk p.t1 p.t7 p.t19 p.t20 (i64.wrap (p.t21 + 1)))) else match bif decide (p.t19[p.t21.toNat]!.fHigh < p.t19[p.t21.toNat]!.fLow) then some (true) else bif decide (p.t19[p.t21.toNat]!.fLow < -1048576) then some (true) else some (decide (1048576 < p.t19[p.t21.toNat]!.fHigh)) with | none => none | some r1 => bif r1 then some (none) else if (p.t7 ++ [p.t19[p.t21.toNat]!]).length ≤ 1073741824 then some (some (L304_0.mk p.t1 (p.t7 ++ [p.t19[p.t21.toNat]!]) p.t19 p.t20 (i64.wrap (p.t21 + 1)))) else none else none else some (none)
def g304_0 : An := (.two .no (.two .no (.two (.two .no (.two .no (.two (.two (.rb [] 43) .no) .no))) .no)))
theorem q304_0 (p : L304_0) : execA Tryz.prog (F304) Tryz.f304.ntmps 300 (loopAt Tryz.f304 0) g304_0 (Option L304_0) (d304_0.pat p) (kOn d304_0.rd) = n304_0 p := by kernel_rfl
def a304_0 : L304_0 → Option L304_0 := advG (n304_0)
abbrev E304 : Type := (List GVar) × Int × Int
def d304 : Td 0 E304 := .c [] [4, 5, 6] (.t (TurnOk.s 4 [] 131) (.c [] [4, 5, 6] (.r 0 1 (ec 4 (qo 0) (ec 5 (qi .i64) (ec 6 (qi .i64) en))) (sr 0 131 sn) (fun z => (z.2.1, z.1.2.1, z.1.2.2.1)) (fun x => (((), x.2.1, x.2.2, ()), (x.1, ()))) fun _ => rfl)))
def A304 := (lc (ql 131) (lc (qi .i64) ln))
def an304 : An := (.two .no (.two .no (.two .no (.two (.two .no (d304_0.lp a304_0 g304_0)) (.two .no (.two (.two .no (d304_1.lp a304_1 .no)) .no))))))
theorem pu304  : ∀ f ∈ ([] : List Nat), PureF (F304) f := ob_nil
theorem fa304 : FnAn Tryz.prog (F304) 0 300 304 (an304) := fnAn_of (l := [(loopAt Tryz.f304 0, (d304_0.lp a304_0 g304_0)), (.skip, (.rb [] 43)), (loopAt Tryz.f304 1, (d304_1.lp a304_1 .no))]) Tryz.func304 (bodyOf_eq (by kernel_rfl)) (by kernel_rfl) (ob_cons ⟨d304_0.ok _, advG_ok (q304_0)⟩ (ob_cons pu304 (ob_cons ⟨d304_1.ok _, advG_ok (q304_1)⟩ ob_nil)))
def m304 (a0 : List GVar) (a1 : Int) : Option E304 :=
 bif decide (a1 = 0) then match a304_0 (L304_0.mk a1 [] a0 (↑a0.length : Int) (0)) with | none => none | some r2 => bif decide (r2.t21 < r2.t20) then if (0 : Int) ≤ r2.t21 ∧ r2.t21 < (↑r2.t19.length : Int) then bif bif decide (r2.t19[r2.t21.toNat]!.fKind = r2.t1) then false else true then none else match bif decide (r2.t19[r2.t21.toNat]!.fHigh < r2.t19[r2.t21.toNat]!.fLow) then some (true) else bif decide (r2.t19[r2.t21.toNat]!.fLow < -1048576) then some (true) else some (decide (1048576 < r2.t19[r2.t21.toNat]!.fHigh)) with | none => none | some r3 => bif r3 then some (([], 0, 3)) else if (r2.t7 ++ [r2.t19[r2.t21.toNat]!]).length ≤ 1073741824 then none else none else none else match a304_1 (L304_1.mk r2.t7 (1) r2.t7 (↑r2.t7.length : Int) (0)) with | none => none | some r4 => bif decide (r4.t51 < r4.t50) then if (0 : Int) ≤ r4.t51 ∧ r4.t51 < (↑r4.t49.length : Int) then if 131 = 131 ∧ r4.t51.toNat < r4.t49.length then bif decide (4096 < i64.wrap (r4.t10 * m337 r4.t49[r4.t51.toNat]!)) then some (([], 0, 4)) else none else none else none else some ((r4.t49, r4.t10, 0)) else bif decide (a1 = 1) then match a304_0 (L304_0.mk a1 [] a0 (↑a0.length : Int) (0)) with | none => none | some r5 => bif decide (r5.t21 < r5.t20) then if (0 : Int) ≤ r5.t21 ∧ r5.t21 < (↑r5.t19.length : Int) then bif bif decide (r5.t19[r5.t21.toNat]!.fKind = r5.t1) then false else true then none else match bif decide (r5.t19[r5.t21.toNat]!.fHigh < r5.t19[r5.t21.toNat]!.fLow) then some (true) else bif decide (r5.t19[r5.t21.toNat]!.fLow < -1048576) then some (true) else some (decide (1048576 < r5.t19[r5.t21.toNat]!.fHigh)) with | none => none | some r6 => bif r6 then some (([], 0, 3)) else if (r5.t7 ++ [r5.t19[r5.t21.toNat]!]).length ≤ 1073741824 then none else none else none else match a304_1 (L304_1.mk r5.t7 (1) r5.t7 (↑r5.t7.length : Int) (0)) with | none => none | some r7 => bif decide (r7.t51 < r7.t50) then if (0 : Int) ≤ r7.t51 ∧ r7.t51 < (↑r7.t49.length : Int) then if 131 = 131 ∧ r7.t51.toNat < r7.t49.length then bif decide (4096 < i64.wrap (r7.t10 * m337 r7.t49[r7.t51.toNat]!)) then some (([], 0, 4)) else none else none else none else some ((r7.t49, r7.t10, 0)) else bif decide (a1 = 2) then match a304_0 (L304_0.mk a1 [] a0 (↑a0.length : Int) (0)) with | none => none | some r8 => bif decide (r8.t21 < r8.t20) then if (0 : Int) ≤ r8.t21 ∧ r8.t21 < (↑r8.t19.length : Int) then bif bif decide (r8.t19[r8.t21.toNat]!.fKind = r8.t1) then false else true then none else match bif decide (r8.t19[r8.t21.toNat]!.fHigh < r8.t19[r8.t21.toNat]!.fLow) then some (true) else bif decide (r8.t19[r8.t21.toNat]!.fLow < -1048576) then some (true) else some (decide (1048576 < r8.t19[r8.t21.toNat]!.fHigh)) with | none => none | some r9 => bif r9 then some (([], 0, 3)) else if (r8.t7 ++ [r8.t19[r8.t21.toNat]!]).length ≤ 1073741824 then none else none else none else match a304_1 (L304_1.mk r8.t7 (1) r8.t7 (↑r8.t7.length : Int) (0)) with | none => none | some r10 => bif decide (r10.t51 < r10.t50) then if (0 : Int) ≤ r10.t51 ∧ r10.t51 < (↑r10.t49.length : Int) then if 131 = 131 ∧ r10.t51.toNat < r10.t49.length then bif decide (4096 < i64.wrap (r10.t10 * m337 r10.t49[r10.t51.toNat]!)) then some (([], 0, 4)) else none else none else none else some ((r10.t49, r10.t10, 0)) else bif decide (a1 = 3) then match a304_0 (L304_0.mk a1 [] a0 (↑a0.length : Int) (0)) with | none => none | some r11 => bif decide (r11.t21 < r11.t20) then if (0 : Int) ≤ r11.t21 ∧ r11.t21 < (↑r11.t19.length : Int) then bif bif decide (r11.t19[r11.t21.toNat]!.fKind = r11.t1) then false else true then none else match bif decide (r11.t19[r11.t21.toNat]!.fHigh < r11.t19[r11.t21.toNat]!.fLow) then some (true) else bif decide (r11.t19[r11.t21.toNat]!.fLow < -1048576) then some (true) else some (decide (1048576 < r11.t19[r11.t21.toNat]!.fHigh)) with | none => none | some r12 => bif r12 then some (([], 0, 3)) else if (r11.t7 ++ [r11.t19[r11.t21.toNat]!]).length ≤ 1073741824 then none else none else none else match a304_1 (L304_1.mk r11.t7 (1) r11.t7 (↑r11.t7.length : Int) (0)) with | none => none | some r13 => bif decide (r13.t51 < r13.t50) then if (0 : Int) ≤ r13.t51 ∧ r13.t51 < (↑r13.t49.length : Int) then if 131 = 131 ∧ r13.t51.toNat < r13.t49.length then bif decide (4096 < i64.wrap (r13.t10 * m337 r13.t49[r13.t51.toNat]!)) then some (([], 0, 4)) else none else none else none else some ((r13.t49, r13.t10, 0)) else some (([], 0, 1))
theorem c304 (a0 : List GVar) (a1 : Int) : callR Tryz.prog (F304) 300 (an304) 304 (A304.c (a0, a1, ())) [] 0 d304.rd = m304 a0 a1 := by kernel_rfl
def e304 : Orc → Orc := eL Tryz.prog 304 false A304 d304 (fun g => m304 g.1 g.2.1)
theorem e304_ok {F : Orc} (h : OrcG Tryz.prog F) : OrcG Tryz.prog (e304 F) := eL_ok (sc := scU) scU_ok (hl_of F304_ok fa304 (fun _ => by kernel_rfl) (fun _ => by kernel_rfl) fun g => c304 g.1 g.2.1) ⟨_, Tryz.func304, by kernel_rfl, by kernel_rfl⟩ (fun _ => by kernel_rfl) (fun _ => by kernel_rfl) h
def F264 : Orc := (e304 or0)
theorem F264_ok : OrcG Tryz.prog F264 := (e304_ok or0_g)
abbrev E264 : Type := Int × Int
def d264 : Td 0 E264 := .c [] [4, 5] (.r 0 0 (ec 4 (qi .i64) (ec 5 (qi .i64) en)) sn (fun z => (z.1.1, z.1.2.1)) (fun x => ((x.1, x.2, ()), (()))) fun _ => rfl)
def A264 := (lc (ql 131) (lc (qi .i64) ln))
def an264 : An := .no
theorem fa264 : FnAn Tryz.prog (F264) 0 300 264 (an264) := fnAn_of (l := []) Tryz.func264 (bodyOf_eq (by kernel_rfl)) (by kernel_rfl) ob_nil
def m264 (a0 : List GVar) (a1 : Int) : Option E264 :=
 match m304 a0 a1 with | none => none | some r1 => some (r1.snd)
theorem c264 (a0 : List GVar) (a1 : Int) : callR Tryz.prog (F264) 300 (an264) 264 (A264.c (a0, a1, ())) [] 0 d264.rd = m264 a0 a1 := by kernel_rfl
def e264 : Orc → Orc := eL Tryz.prog 264 false A264 d264 (fun g => m264 g.1 g.2.1)
theorem e264_ok {F : Orc} (h : OrcG Tryz.prog F) : OrcG Tryz.prog (e264 F) := eL_ok (sc := scU) scU_ok (hl_of F264_ok fa264 (fun _ => by kernel_rfl) (fun _ => by kernel_rfl) fun g => c264 g.1 g.2.1) ⟨_, Tryz.func264, by kernel_rfl, by kernel_rfl⟩ (fun _ => by kernel_rfl) (fun _ => by kernel_rfl) h
def F210 : Orc := (e264 (e263 (e262 (e261 or0))))
theorem F210_ok : OrcG Tryz.prog F210 := (e264_ok (e263_ok (e262_ok (e261_ok or0_g))))
structure L210_1 where
 t0 : List GVar
 t71 : List Int
 t72 : Int
 t73 : Int
def d210_1 : Td 0 L210_1 := .c [] [0, 71, 72, 73] (.r 0 1 (ec 0 (ql 131) (ec 71 (qo 0) (ec 72 (qi .i64) (ec 73 (qi .i64) en)))) (sr 0 129 sn) (fun z => ⟨z.1.1, z.2.1, z.1.2.2.1, z.1.2.2.2.1⟩) (fun x => ((x.t0, (), x.t72, x.t73, ()), (x.t71, ()))) fun _ => rfl)
def n210_1 (p : L210_1) : Option (Option L210_1) :=
 bif decide (p.t73 < p.t72) then if (0 : Int) ≤ p.t73 ∧ p.t73 < (↑p.t71.length : Int) then if 129 = 129 ∧ p.t73.toNat < p.t71.length then match m264 p.t0 p.t71[p.t73.toNat]! with | none => none | some r6 => match bif bif decide (r6.snd = 0) then false else true then some (true) else bif decide (((p.t0, (), p.t72, p.t73, ()), p.t71, ()).snd.fst[((p.t0, (), p.t72, p.t73, ()), p.t71, ()).fst.snd.snd.snd.fst.toNat]! = 3) then some (decide (256 < r6.fst)) else some (false) with | none => none | some r7 => bif r7 then some (none) else some (some (L210_1.mk p.t0 p.t71 p.t72 (i64.wrap (p.t73 + 1)))) else none else none else some (none)
def g210_1 : An := (.two .no (.two .no (.two (.two .no (.two .no (.two (.rb [] 92) .no))) .no)))
theorem q210_1 (p : L210_1) : execA Tryz.prog (F210) Tryz.f210.ntmps 300 (loopAt Tryz.f210 1) g210_1 (Option L210_1) (d210_1.pat p) (kOn d210_1.rd) = n210_1 p := by kernel_rfl
def a210_1 : L210_1 → Option L210_1 := advG (n210_1)
structure L210_0 where
 t0 : List GVar
 t10 : List GVar
 t11 : Int
 t12 : Int
def d210_0 : Td 0 L210_0 := .c [] [0, 10, 11, 12] (.r 0 0 (ec 0 (ql 131) (ec 10 (ql 131) (ec 11 (qi .i64) (ec 12 (qi .i64) en)))) sn (fun z => ⟨z.1.1, z.1.2.1, z.1.2.2.1, z.1.2.2.2.1⟩) (fun x => ((x.t0, x.t10, x.t11, x.t12, ()), (()))) fun _ => rfl)
def n210_0 (p : L210_0) : Option (Option L210_0) :=
 bif decide (p.t12 < p.t11) then if (0 : Int) ≤ p.t12 ∧ p.t12 < (↑p.t10.length : Int) then match m261 p.t10[p.t12.toNat]!.fName with | none => none | some r1 => bif bif r1 then false else true then some (none) else if (0 : Int) ≤ p.t12 ∧ p.t12 ≤ (↑p.t0.length : Int) then match m262 (List.take p.t12.toNat p.t0) p.t10[p.t12.toNat]! with | none => none | some r2 => bif r2 then some (none) else match bif decide (p.t10[p.t12.toNat]!.fKind < 0) then some (true) else some (decide (3 < p.t10[p.t12.toNat]!.fKind)) with | none => none | some r3 => bif r3 then some (none) else bif bif m263 p.t10[p.t12.toNat]!.fLow p.t10[p.t12.toNat]!.fHigh then false else true then some (none) else match bif bif decide (p.t10[p.t12.toNat]!.fKind = 0) then false else true then some (bif decide (p.t10[p.t12.toNat]!.fInit = 0) then false else true) else some (false) with | none => none | some r4 => bif r4 then some (none) else match bif decide (p.t10[p.t12.toNat]!.fKind = 0) then bif decide (p.t10[p.t12.toNat]!.fInit < p.t10[p.t12.toNat]!.fLow) then some (true) else some (decide (p.t10[p.t12.toNat]!.fHigh < p.t10[p.t12.toNat]!.fInit)) else some (false) with | none => none | some r5 => bif r5 then some (none) else some (some (L210_0.mk p.t0 p.t10 p.t11 (i64.wrap (p.t12 + 1)))) else none else none else some (none)
def g210_0 : An := (.two .no (.two .no (.two (.two .no (.two .no (.two .no (.two .no (.two .no (.two .no (.two (.rb [] 29) (.two .no (.two (.two .no (.two .no (.two (.rb [] 38) (.two .no (.rb [] 38))))) .no))))))))) .no)))
theorem q210_0 (p : L210_0) : execA Tryz.prog (F210) Tryz.f210.ntmps 300 (loopAt Tryz.f210 0) g210_0 (Option L210_0) (d210_0.pat p) (kOn d210_0.rd) = n210_0 p := by kernel_rfl
def a210_0 : L210_0 → Option L210_0 := advG (n210_0)
abbrev E210 : Type := Int
def d210 : Td 0 E210 := .c [] [2] (.r 0 0 (ec 2 (qi .i64) en) sn (fun z => z.1.1) (fun x => ((x, ()), (()))) fun _ => rfl)
def A210 := (lc (ql 131) ln)
def an210 : An := (.two .no (.two (.two .no (d210_0.lp a210_0 g210_0)) (.two (.two .no (d210_1.lp a210_1 g210_1)) .no)))
theorem pu210  : ∀ f ∈ ([] : List Nat), PureF (F210) f := ob_nil
theorem fa210 : FnAn Tryz.prog (F210) 0 300 210 (an210) := fnAn_of (l := [(loopAt Tryz.f210 0, (d210_0.lp a210_0 g210_0)), (.skip, (.rb [] 29)), (.skip, (.rb [] 38)), (.skip, (.rb [] 38)), (loopAt Tryz.f210 1, (d210_1.lp a210_1 g210_1)), (.skip, (.rb [] 92))]) Tryz.func210 (bodyOf_eq (by kernel_rfl)) (by kernel_rfl) (ob_cons ⟨d210_0.ok _, advG_ok (q210_0)⟩ (ob_cons pu210 (ob_cons pu210 (ob_cons pu210 (ob_cons ⟨d210_1.ok _, advG_ok (q210_1)⟩ (ob_cons pu210 ob_nil))))))
def m210 (a0 : List GVar) : Option E210 :=
 match a210_0 (L210_0.mk a0 a0 (↑a0.length : Int) (0)) with | none => none | some r8 => bif decide (r8.t12 < r8.t11) then if (0 : Int) ≤ r8.t12 ∧ r8.t12 < (↑r8.t10.length : Int) then match m261 r8.t10[r8.t12.toNat]!.fName with | none => none | some r9 => bif bif r9 then false else true then some (7) else if (0 : Int) ≤ r8.t12 ∧ r8.t12 ≤ (↑r8.t0.length : Int) then match m262 (List.take r8.t12.toNat r8.t0) r8.t10[r8.t12.toNat]! with | none => none | some r10 => bif r10 then some (8) else match bif decide (r8.t10[r8.t12.toNat]!.fKind < 0) then some (true) else some (decide (3 < r8.t10[r8.t12.toNat]!.fKind)) with | none => none | some r11 => bif r11 then some (1) else bif bif m263 r8.t10[r8.t12.toNat]!.fLow r8.t10[r8.t12.toNat]!.fHigh then false else true then some (3) else match bif bif decide (r8.t10[r8.t12.toNat]!.fKind = 0) then false else true then some (bif decide (r8.t10[r8.t12.toNat]!.fInit = 0) then false else true) else some (false) with | none => none | some r12 => bif r12 then some (3) else match bif decide (r8.t10[r8.t12.toNat]!.fKind = 0) then bif decide (r8.t10[r8.t12.toNat]!.fInit < r8.t10[r8.t12.toNat]!.fLow) then some (true) else some (decide (r8.t10[r8.t12.toNat]!.fHigh < r8.t10[r8.t12.toNat]!.fInit)) else some (false) with | none => none | some r13 => bif r13 then some (3) else none else none else none else match a210_1 (L210_1.mk r8.t0 [1, 2, 3] (↑3 : Int) (0)) with | none => none | some r14 => bif decide (r14.t73 < r14.t72) then if (0 : Int) ≤ r14.t73 ∧ r14.t73 < (↑r14.t71.length : Int) then if 129 = 129 ∧ r14.t73.toNat < r14.t71.length then match m264 r14.t0 r14.t71[r14.t73.toNat]! with | none => none | some r15 => match bif bif decide (r15.snd = 0) then false else true then some (true) else bif decide (((r14.t0, (), r14.t72, r14.t73, ()), r14.t71, ()).snd.fst[((r14.t0, (), r14.t72, r14.t73, ()), r14.t71, ()).fst.snd.snd.snd.fst.toNat]! = 3) then some (decide (256 < r15.fst)) else some (false) with | none => none | some r16 => bif r16 then some (4) else none else none else none else some (0)
theorem c210 (a0 : List GVar) : callR Tryz.prog (F210) 300 (an210) 210 (A210.c (a0, ())) [] 0 d210.rd = m210 a0 := by kernel_rfl
def e210 : Orc → Orc := eL Tryz.prog 210 false A210 d210 (fun g => m210 g.1)
theorem e210_ok {F : Orc} (h : OrcG Tryz.prog F) : OrcG Tryz.prog (e210 F) := eL_ok (sc := scU) scU_ok (hl_of F210_ok fa210 (fun _ => by kernel_rfl) (fun _ => by kernel_rfl) fun g => c210 g.1) ⟨_, Tryz.func210, by kernel_rfl, by kernel_rfl⟩ (fun _ => by kernel_rfl) (fun _ => by kernel_rfl) h
def F265 : Orc := or0
theorem F265_ok : OrcG Tryz.prog F265 := or0_g
abbrev E265 : Type := Bool
def d265 : Td 0 E265 := .c [] [3] (.r 0 0 (ec 3 qb en) sn (fun z => z.1.1) (fun x => ((x, ()), (()))) fun _ => rfl)
def A265 := (lc (qg 139) (lc (qr (lg 139)) ln))
def an265 : An := .no
theorem fa265 : FnAn Tryz.prog (F265) 0 300 265 (an265) := fnAn_of (l := []) Tryz.func265 (bodyOf_eq (by kernel_rfl)) (by kernel_rfl) ob_nil
def m265 (a0 : Hatch) (c0 : Hatch) : E265 :=
 a0.fName.toList == c0.fName.toList
theorem c265 (a0 : Hatch) (c0 : Hatch) : callR Tryz.prog (F265) 300 (an265) 265 (A265.c (a0, c0, ())) [] 0 d265.rd = some (m265 a0 c0) := by kernel_rfl
def e265 : Orc → Orc := eL Tryz.prog 265 false A265 d265 (fun g => some (m265 g.1 g.2.1))
theorem e265_ok {F : Orc} (h : OrcG Tryz.prog F) : OrcG Tryz.prog (e265 F) := eL_ok (sc := scU) scU_ok (hl_of F265_ok fa265 (fun _ => by kernel_rfl) (fun _ => by kernel_rfl) fun g => c265 g.1 g.2.1) ⟨_, Tryz.func265, by kernel_rfl, by kernel_rfl⟩ (fun _ => by kernel_rfl) (fun _ => by kernel_rfl) h
def F305 : Orc := (e265 or0)
theorem F305_ok : OrcG Tryz.prog F305 := (e265_ok or0_g)
structure L305_0 where
 t0 : List Hatch
 t1_0_0 : ByteArray
 t1_0_1 : Int
 t1_0_2 : Int
 t1_0_3 : Int
 t1_0_4 : Int
 t1_0_5 : List GTerm
 t7 : Int
 t8 : Int
def d305_0 : Td 0 L305_0 := .c [] [0, 1, 7, 8] (.r 0 0 (ec 0 (ql 139) (ec 1 (qf 265 (lc (qr (lc qs (lc (qi .i64) (lc (qi .i64) (lc (qi .i64) (lc (qi .i64) (lc (ql 137) ln))))))) ln)) (ec 7 (qi .i64) (ec 8 (qi .i64) en)))) sn (fun z => ⟨z.1.1, z.1.2.1.1.1, z.1.2.1.1.2.1, z.1.2.1.1.2.2.1, z.1.2.1.1.2.2.2.1, z.1.2.1.1.2.2.2.2.1, z.1.2.1.1.2.2.2.2.2.1, z.1.2.2.1, z.1.2.2.2.1⟩) (fun x => ((x.t0, ((x.t1_0_0, x.t1_0_1, x.t1_0_2, x.t1_0_3, x.t1_0_4, x.t1_0_5, ()), ()), x.t7, x.t8, ()), (()))) fun _ => rfl)
def n305_0 (p : L305_0) : Option (Option L305_0) :=
 bif decide (p.t8 < p.t7) then if (0 : Int) ≤ p.t8 ∧ p.t8 < (↑p.t0.length : Int) then bif m265 (Hatch.mk p.t0[p.t8.toNat]!.fName p.t0[p.t8.toNat]!.fLow p.t0[p.t8.toNat]!.fHigh (GTerm.mk p.t0[p.t8.toNat]!.fTerm.fOp p.t0[p.t8.toNat]!.fTerm.fN p.t0[p.t8.toNat]!.fTerm.fKids)) (Hatch.mk p.t1_0_0 p.t1_0_1 p.t1_0_2 (GTerm.mk p.t1_0_3 p.t1_0_4 p.t1_0_5)) then some (none) else some (some (L305_0.mk p.t0 p.t1_0_0 p.t1_0_1 p.t1_0_2 p.t1_0_3 p.t1_0_4 p.t1_0_5 p.t7 (i64.wrap (p.t8 + 1)))) else none else some (none)
theorem q305_0 (p : L305_0) : execA Tryz.prog (F305) Tryz.f305.ntmps 300 (loopAt Tryz.f305 0) .no (Option L305_0) (d305_0.pat p) (kOn d305_0.rd) = n305_0 p := by kernel_rfl
def a305_0 : L305_0 → Option L305_0 := advG (n305_0)
abbrev E305 : Type := Int
def d305 : Td 0 E305 := .c [] [4] (.r 0 0 (ec 4 (qi .i64) en) sn (fun z => z.1.1) (fun x => ((x, ()), (()))) fun _ => rfl)
def A305 := (lc (ql 139) (lc (qf 265 (lc (qr (lg 139)) ln)) ln))
def an305 : An := (.two .no (.two (.two .no (d305_0.lp a305_0 .no)) .no))
theorem fa305 : FnAn Tryz.prog (F305) 0 300 305 (an305) := fnAn_of (l := [(loopAt Tryz.f305 0, (d305_0.lp a305_0 .no))]) Tryz.func305 (bodyOf_eq (by kernel_rfl)) (by kernel_rfl) (ob_cons ⟨d305_0.ok _, advG_ok (q305_0)⟩ ob_nil)
def m305 (a0 : List Hatch) (a1_0 : Hatch) : Option E305 :=
 match a305_0 (L305_0.mk a0 a1_0.fName a1_0.fLow a1_0.fHigh a1_0.fTerm.fOp a1_0.fTerm.fN a1_0.fTerm.fKids (↑a0.length : Int) (0)) with | none => none | some r1 => bif decide (r1.t8 < r1.t7) then if (0 : Int) ≤ r1.t8 ∧ r1.t8 < (↑r1.t0.length : Int) then bif m265 (Hatch.mk r1.t0[r1.t8.toNat]!.fName r1.t0[r1.t8.toNat]!.fLow r1.t0[r1.t8.toNat]!.fHigh (GTerm.mk r1.t0[r1.t8.toNat]!.fTerm.fOp r1.t0[r1.t8.toNat]!.fTerm.fN r1.t0[r1.t8.toNat]!.fTerm.fKids)) (Hatch.mk r1.t1_0_0 r1.t1_0_1 r1.t1_0_2 (GTerm.mk r1.t1_0_3 r1.t1_0_4 r1.t1_0_5)) then some (r1.t8) else none else none else some (-1)
theorem c305 (a0 : List Hatch) (a1_0 : Hatch) : callR Tryz.prog (F305) 300 (an305) 305 (A305.c (a0, (a1_0, ()), ())) [] 0 d305.rd = m305 a0 a1_0 := by kernel_rfl
def e305 : Orc → Orc := eL Tryz.prog 305 true A305 d305 (fun g => m305 g.1 g.2.1.1)
theorem e305_ok {F : Orc} (h : OrcG Tryz.prog F) : OrcG Tryz.prog (e305 F) := eL_ok (sc := scU) scU_ok (hl_of F305_ok fa305 (fun _ => by kernel_rfl) (fun _ => by kernel_rfl) fun g => c305 g.1 g.2.1.1) ⟨_, Tryz.func305, by kernel_rfl, by kernel_rfl⟩ (fun _ => by kernel_rfl) (fun _ => by kernel_rfl) h
def F266 : Orc := (e305 (e265 or0))
theorem F266_ok : OrcG Tryz.prog F266 := (e305_ok (e265_ok or0_g))
abbrev E266 : Type := Bool
def d266 : Td 0 E266 := .c [] [4] (.r 0 0 (ec 4 qb en) sn (fun z => z.1.1) (fun x => ((x, ()), (()))) fun _ => rfl)
def A266 := (lc (ql 139) (lc (qf 265 (lc (qr (lg 139)) ln)) ln))
def an266 : An := .no
theorem fa266 : FnAn Tryz.prog (F266) 0 300 266 (an266) := fnAn_of (l := []) Tryz.func266 (bodyOf_eq (by kernel_rfl)) (by kernel_rfl) ob_nil
def m266 (a0 : List Hatch) (a1_0 : Hatch) : Option E266 :=
 match m305 a0 (Hatch.mk a1_0.fName a1_0.fLow a1_0.fHigh (GTerm.mk a1_0.fTerm.fOp a1_0.fTerm.fN a1_0.fTerm.fKids)) with | none => none | some r1 => some (decide (0 ≤ r1))
theorem c266 (a0 : List Hatch) (a1_0 : Hatch) : callR Tryz.prog (F266) 300 (an266) 266 (A266.c (a0, (a1_0, ()), ())) [] 0 d266.rd = m266 a0 a1_0 := by kernel_rfl
def e266 : Orc → Orc := eL Tryz.prog 266 true A266 d266 (fun g => m266 g.1 g.2.1.1)
theorem e266_ok {F : Orc} (h : OrcG Tryz.prog F) : OrcG Tryz.prog (e266 F) := eL_ok (sc := scU) scU_ok (hl_of F266_ok fa266 (fun _ => by kernel_rfl) (fun _ => by kernel_rfl) fun g => c266 g.1 g.2.1.1) ⟨_, Tryz.func266, by kernel_rfl, by kernel_rfl⟩ (fun _ => by kernel_rfl) (fun _ => by kernel_rfl) h
def F338 : Orc := or0
theorem F338_ok : OrcG Tryz.prog F338 := or0_g
abbrev E338 : Type := Int × Int
def d338 : Td 0 E338 := .c [] [2, 3] (.r 0 0 (ec 2 (qi .i64) (ec 3 (qi .i64) en)) sn (fun z => (z.1.1, z.1.2.1)) (fun x => ((x.1, x.2, ()), (()))) fun _ => rfl)
def A338 := (lc (qi .i64) ln)
def an338 : An := (.two .no (.two (.two (.rb [] 4) (.two .no (.two (.rb [] 11) (.two .no (.two (.rb [] 18) .no))))) .no))
theorem pu338  : ∀ f ∈ ([] : List Nat), PureF (F338) f := ob_nil
theorem fa338 : FnAn Tryz.prog (F338) 0 300 338 (an338) := fnAn_of (l := [(.skip, (.rb [] 4)), (.skip, (.rb [] 11)), (.skip, (.rb [] 18))]) Tryz.func338 (bodyOf_eq (by kernel_rfl)) (by kernel_rfl) (ob_cons pu338 (ob_cons pu338 (ob_cons pu338 ob_nil)))
def m338 (a0 : Int) : E338 :=
 let r1 : Bool := bif decide (a0 = 0) then true else decide (a0 = 24); bif r1 then (0, 0) else let r2 : Bool := bif decide (a0 = 6) then true else decide (a0 = 7); bif r2 then (1, 1) else let r3 : Bool := bif decide (8 ≤ a0) then decide (a0 ≤ 22) else false; bif r3 then (2, 2) else bif decide (a0 = 23) then (3, 3) else bif decide (a0 = 25) then (2, 33) else (-1, -1)
theorem c338 (a0 : Int) : callR Tryz.prog (F338) 300 (an338) 338 (A338.c (a0, ())) [] 0 d338.rd = some (m338 a0) := by
 refine Eq.trans (b := (
  match bif decide (a0 = 0) then some (true) else some (decide (a0 = 24)) with | none => none | some r1 => bif r1 then some ((0, 0)) else match bif decide (a0 = 6) then some (true) else some (decide (a0 = 7)) with | none => none | some r2 => bif r2 then some ((1, 1)) else match bif decide (8 ≤ a0) then some (decide (a0 ≤ 22)) else some (false) with | none => none | some r3 => bif r3 then some ((2, 2)) else bif decide (a0 = 23) then some ((3, 3)) else bif decide (a0 = 25) then some ((2, 33)) else some ((-1, -1)) : Option E338)) (by kernel_rfl) ?_
 simp only [m338, cond_some, ite_some]
def e338 : Orc → Orc := eL Tryz.prog 338 false A338 d338 (fun g => some (m338 g.1))
theorem e338_ok {F : Orc} (h : OrcG Tryz.prog F) : OrcG Tryz.prog (e338 F) := eL_ok (sc := scU) scU_ok (hl_of F338_ok fa338 (fun _ => by kernel_rfl) (fun _ => by kernel_rfl) fun g => c338 g.1) ⟨_, Tryz.func338, by kernel_rfl, by kernel_rfl⟩ (fun _ => by kernel_rfl) (fun _ => by kernel_rfl) h
abbrev E306 : Type := Bool
def d306 : Td 0 E306 := .c [] [6] (.r 0 0 (ec 6 qb en) sn (fun z => z.1.1) (fun x => ((x, ()), (()))) fun _ => rfl)
def A306 := (lc (ql 131) (lc (qg 137) (lc qb ln)))
def x306 (M : (List GVar) → GTerm → Bool → Option E306) : Orc → Orc := eL Tryz.prog 306 false A306 d306 (fun g => M g.1 g.2.1 g.2.2.1)
def H306 (M : (List GVar) → GTerm → Bool → Option E306) : Prop := HL Tryz.prog 306 A306 d306 (fun g => M g.1 g.2.1 g.2.2.1)
theorem x306_ok {M : (List GVar) → GTerm → Bool → Option E306} (hM : H306 M) {F : Orc} (h : OrcG Tryz.prog F) : OrcG Tryz.prog (x306 M F) := eL_ok (sc := scU) scU_ok hM ⟨_, Tryz.func306, by kernel_rfl, by kernel_rfl⟩ (fun _ => by kernel_rfl) (fun _ => by kernel_rfl) h
def F306 (M306 : (List GVar) → GTerm → Bool → Option E306) : Orc := (e338 (x306 M306 or0))
theorem F306_ok {M306} (h306 : H306 M306) : OrcG Tryz.prog (F306 M306) := (e338_ok (x306_ok h306 or0_g))
structure L306_0 where
 t0 : List GVar
 t2 : Bool
 t65 : List GTerm
 t66 : Int
 t67 : Int
def d306_0 : Td 0 L306_0 := .c [] [0, 2, 65, 66, 67] (.r 0 0 (ec 0 (ql 131) (ec 2 qb (ec 65 (ql 137) (ec 66 (qi .i64) (ec 67 (qi .i64) en))))) sn (fun z => ⟨z.1.1, z.1.2.1, z.1.2.2.1, z.1.2.2.2.1, z.1.2.2.2.2.1⟩) (fun x => ((x.t0, x.t2, x.t65, x.t66, x.t67, ()), (()))) fun _ => rfl)
def n306_0 (M306 : (List GVar) → GTerm → Bool → Option E306) (p : L306_0) : Option (Option L306_0) :=
 bif decide (p.t67 < p.t66) then if (0 : Int) ≤ p.t67 ∧ p.t67 < (↑p.t65.length : Int) then match M306 p.t0 (GTerm.mk p.t65[p.t67.toNat]!.fOp p.t65[p.t67.toNat]!.fN p.t65[p.t67.toNat]!.fKids) p.t2 with | none => none | some r1 => bif bif r1 then false else true then some (none) else some (some (L306_0.mk p.t0 p.t2 p.t65 p.t66 (i64.wrap (p.t67 + 1)))) else none else some (none)
theorem q306_0 (M306 : (List GVar) → GTerm → Bool → Option E306) (p : L306_0) : execA Tryz.prog (F306 M306) Tryz.f306.ntmps 300 (loopAt Tryz.f306 0) .no (Option L306_0) (d306_0.pat p) (kOn d306_0.rd) = n306_0 M306 p := by kernel_rfl
def a306_0 (M306 : (List GVar) → GTerm → Bool → Option E306) : L306_0 → Option L306_0 := advG (n306_0 M306)
def an306 (M306 : (List GVar) → GTerm → Bool → Option E306) : An := (.two .no (.two .no (.two (.two (.rb [] 32) .no) (.two (.two .no (.two .no (.two .no (.two .no (.two (.two (.rb [] 63) .no) .no))))) (.two (.two .no (d306_0.lp (a306_0 M306) .no)) .no)))))
theorem pu306 {M306} : ∀ f ∈ ([] : List Nat), PureF (F306 M306) f := ob_nil
theorem fa306 (M306 : (List GVar) → GTerm → Bool → Option E306) : FnAn Tryz.prog (F306 M306) 0 300 306 (an306 M306) := fnAn_of (l := [(.skip, (.rb [] 32)), (.skip, (.rb [] 63)), (loopAt Tryz.f306 0, (d306_0.lp (a306_0 M306) .no))]) Tryz.func306 (bodyOf_eq (by kernel_rfl)) (by kernel_rfl) (ob_cons pu306 (ob_cons pu306 (ob_cons ⟨d306_0.ok _, advG_ok (q306_0 M306)⟩ ob_nil)))
def s306 (M306 : (List GVar) → GTerm → Bool → Option E306) (a0 : List GVar) (a1 : GTerm) (a2 : Bool) : Option E306 :=
 match bif decide ((m338 a1.fOp).fst < 0) then some (true) else bif decide ((↑a1.fKids.length : Int) < (m338 a1.fOp).fst) then some (true) else some (decide ((m338 a1.fOp).snd < (↑a1.fKids.length : Int))) with | none => none | some r2 => bif r2 then some (false) else bif decide (a1.fOp = 0) then match a306_0 M306 (L306_0.mk a0 a2 a1.fKids (↑a1.fKids.length : Int) (0)) with | none => none | some r3 => bif decide (r3.t67 < r3.t66) then if (0 : Int) ≤ r3.t67 ∧ r3.t67 < (↑r3.t65.length : Int) then match M306 r3.t0 (GTerm.mk r3.t65[r3.t67.toNat]!.fOp r3.t65[r3.t67.toNat]!.fN r3.t65[r3.t67.toNat]!.fKids) r3.t2 with | none => none | some r4 => bif bif r4 then false else true then some (false) else none else none else some (true) else bif decide (a1.fOp = 24) then match bif decide (a1.fN < 0) then some (true) else bif decide ((↑a0.length : Int) ≤ a1.fN) then some (true) else bif a2 then if (0 : Int) ≤ a1.fN ∧ a1.fN < (↑a0.length : Int) then some (decide (a0[a1.fN.toNat]!.fKind = 0)) else none else some (false) with | none => none | some r5 => bif r5 then some (false) else match a306_0 M306 (L306_0.mk a0 a2 a1.fKids (↑a1.fKids.length : Int) (0)) with | none => none | some r6 => bif decide (r6.t67 < r6.t66) then if (0 : Int) ≤ r6.t67 ∧ r6.t67 < (↑r6.t65.length : Int) then match M306 r6.t0 (GTerm.mk r6.t65[r6.t67.toNat]!.fOp r6.t65[r6.t67.toNat]!.fN r6.t65[r6.t67.toNat]!.fKids) r6.t2 with | none => none | some r7 => bif bif r7 then false else true then some (false) else none else none else some (true) else bif bif decide (a1.fN = 0) then false else true then some (false) else match a306_0 M306 (L306_0.mk a0 a2 a1.fKids (↑a1.fKids.length : Int) (0)) with | none => none | some r8 => bif decide (r8.t67 < r8.t66) then if (0 : Int) ≤ r8.t67 ∧ r8.t67 < (↑r8.t65.length : Int) then match M306 r8.t0 (GTerm.mk r8.t65[r8.t67.toNat]!.fOp r8.t65[r8.t67.toNat]!.fN r8.t65[r8.t67.toNat]!.fKids) r8.t2 with | none => none | some r9 => bif bif r9 then false else true then some (false) else none else none else some (true)
theorem c306 (M306 : (List GVar) → GTerm → Bool → Option E306) (a0 : List GVar) (a1 : GTerm) (a2 : Bool) : callR Tryz.prog (F306 M306) 300 (an306 M306) 306 (A306.c (a0, a1, a2, ())) [] 0 d306.rd = s306 M306 a0 a1 a2 := by kernel_rfl
def mm306 : Nat → ((List GVar) → GTerm → Bool → Option E306)
 | 0 => (fun _ _ _ => none)
 | n + 1 => (s306 (mm306 n))
def m306 (n : Nat) : (List GVar) → GTerm → Bool → Option E306 := (mm306 n)
theorem mm306_ok : ∀ n, H306 (m306 n)
 | 0 => fun _ _ h => (by cases h)
 | n + 1 => by
  have ih := mm306_ok n
  have i306 := ih
  exact (hl_of (F306_ok i306) (fa306 (m306 n)) (fun _ => by kernel_rfl) (fun _ => by kernel_rfl) fun g => c306 (m306 n) g.1 g.2.1 g.2.2.1)
def r306 : (List GVar) → GTerm → Bool → Option E306 := fun a0 a1 a2 => lim (fun n => m306 n a0 a1 a2)
theorem r306_ok : H306 r306 := fun g b h => by
 obtain ⟨n, hn⟩ := lim_some (show lim (fun n => m306 n g.1 g.2.1 g.2.2.1) = some b from h)
 exact (mm306_ok n) g b hn
def e306 (F : Orc) : Orc := x306 r306 F
theorem e306_ok {F : Orc} (h : OrcG Tryz.prog F) : OrcG Tryz.prog (e306 F) := x306_ok r306_ok h
def F350 : Orc := or0
theorem F350_ok : OrcG Tryz.prog F350 := or0_g
abbrev E350 : Type := Int
def d350 : Td 0 E350 := .c [] [4] (.r 0 0 (ec 4 (qi .i64) en) sn (fun z => z.1.1) (fun x => ((x, ()), (()))) fun _ => rfl)
def A350 := (lc (qi .i64) (lc (qi .i64) ln))
def an350 : An := .no
theorem fa350 : FnAn Tryz.prog (F350) 0 300 350 (an350) := fnAn_of (l := []) Tryz.func350 (bodyOf_eq (by kernel_rfl)) (by kernel_rfl) ob_nil
def m350 (a0 : Int) (a1 : Int) : E350 :=
 i64.wrap (a0 * a1)
theorem c350 (a0 : Int) (a1 : Int) : callR Tryz.prog (F350) 300 (an350) 350 (A350.c (a0, a1, ())) [] 0 d350.rd = some (m350 a0 a1) := by kernel_rfl
def e350 : Orc → Orc := eL Tryz.prog 350 false A350 d350 (fun g => some (m350 g.1 g.2.1))
theorem e350_ok {F : Orc} (h : OrcG Tryz.prog F) : OrcG Tryz.prog (e350 F) := eL_ok (sc := scU) scU_ok (hl_of F350_ok fa350 (fun _ => by kernel_rfl) (fun _ => by kernel_rfl) fun g => c350 g.1 g.2.1) ⟨_, Tryz.func350, by kernel_rfl, by kernel_rfl⟩ (fun _ => by kernel_rfl) (fun _ => by kernel_rfl) h
def F351 : Orc := or0
theorem F351_ok : OrcG Tryz.prog F351 := or0_g
abbrev E351 : Type := Span
def d351 : Td 0 E351 := .c [] [4] (.r 0 1 (ec 4 (qp 0 0) en) (sb 0 331 (lg 331) sn) (fun z => z.2.1) (fun x => (((), ()), (x, ()))) fun _ => rfl)
def A351 := (lc (qg 331) (lc (qg 331) ln))
def an351 : An := .no
theorem fa351 : FnAn Tryz.prog (F351) 0 300 351 (an351) := fnAn_of (l := []) Tryz.func351 (bodyOf_eq (by kernel_rfl)) (by kernel_rfl) ob_nil
def m351 (a0 : Span) (a1 : Span) : E351 :=
 Span.mk (if a1.fLow < a0.fLow then a1.fLow else a0.fLow) (if a0.fHigh < a1.fHigh then a1.fHigh else a0.fHigh)
theorem c351 (a0 : Span) (a1 : Span) : callR Tryz.prog (F351) 300 (an351) 351 (A351.c (a0, a1, ())) [] 0 d351.rd = some (m351 a0 a1) := by
 refine Eq.trans (b := (
  some (Span.mk (if a1.fLow < a0.fLow then a1.fLow else a0.fLow) (if a0.fHigh < a1.fHigh then a1.fHigh else a0.fHigh)) : Option E351)) (by kernel_rfl) ?_
 simp only [m351, cond_some, ite_some]
def e351 : Orc → Orc := eL Tryz.prog 351 false A351 d351 (fun g => some (m351 g.1 g.2.1))
theorem e351_ok {F : Orc} (h : OrcG Tryz.prog F) : OrcG Tryz.prog (e351 F) := eL_ok (sc := scU) scU_ok (hl_of F351_ok fa351 (fun _ => by kernel_rfl) (fun _ => by kernel_rfl) fun g => c351 g.1 g.2.1) ⟨_, Tryz.func351, by kernel_rfl, by kernel_rfl⟩ (fun _ => by kernel_rfl) (fun _ => by kernel_rfl) h
def F349 : Orc := (e351 (e350 or0))
theorem F349_ok : OrcG Tryz.prog F349 := (e351_ok (e350_ok or0_g))
structure L349_0 where
 t38 : List Int
 t39 : Int
 t40 : Int
 b0 : Span
 b1 : Span
def d349_0 : Td 0 L349_0 := .c [] [6, 8, 38, 39, 40] (.r 0 3 (ec 6 (qp 0 0) (ec 8 (qp 1 0) (ec 38 (qo 2) (ec 39 (qi .i64) (ec 40 (qi .i64) en))))) (sb 0 331 (lg 331) (sb 1 331 (lg 331) (sr 2 3 sn))) (fun z => ⟨z.2.2.2.1, z.1.2.2.2.1, z.1.2.2.2.2.1, z.2.1, z.2.2.1⟩) (fun x => (((), (), (), x.t39, x.t40, ()), (x.b0, x.b1, x.t38, ()))) fun _ => rfl)
def n349_0 (p : L349_0) : Option (Option L349_0) :=
 bif decide (p.t40 < p.t39) then if (0 : Int) ≤ p.t40 ∧ p.t40 < (↑p.t38.length : Int) then if 3 = 3 ∧ p.t40.toNat < p.t38.length then some (some (L349_0.mk p.t38 p.t39 (i64.wrap (p.t40 + 1)) p.b0 (m351 p.b1 (Span.mk p.t38[p.t40.toNat]! p.t38[p.t40.toNat]!)))) else none else none else some (none)
theorem q349_0 (p : L349_0) : execA Tryz.prog (F349) Tryz.f349.ntmps 300 (loopAt Tryz.f349 0) .no (Option L349_0) (d349_0.pat p) (kOn d349_0.rd) = n349_0 p := by kernel_rfl
def a349_0 : L349_0 → Option L349_0 := advG (n349_0)
abbrev E349 : Type := Span
def d349 : Td 0 E349 := .c [] [6] (.r 0 1 (ec 6 (qp 0 0) en) (sb 0 331 (lg 331) sn) (fun z => z.2.1) (fun x => (((), ()), (x, ()))) fun _ => rfl)
def A349 := (lc (qg 331) (lc (qg 331) (lc (qf 350 ln) ln)))
def an349 : An := (.two .no (.two .no (.two .no (.two (.two .no (d349_0.lp a349_0 .no)) .no))))
theorem fa349 : FnAn Tryz.prog (F349) 0 300 349 (an349) := fnAn_of (l := [(loopAt Tryz.f349 0, (d349_0.lp a349_0 .no))]) Tryz.func349 (bodyOf_eq (by kernel_rfl)) (by kernel_rfl) (ob_cons ⟨d349_0.ok _, advG_ok (q349_0)⟩ ob_nil)
def m349 (a0 : Span) (a1 : Span) : Option E349 :=
 match a349_0 (L349_0.mk [m350 a0.fLow a1.fHigh, m350 a0.fHigh a1.fLow, m350 a0.fHigh a1.fHigh] (↑[m350 a0.fLow a1.fHigh, m350 a0.fHigh a1.fLow, m350 a0.fHigh a1.fHigh].length : Int) (0) (Span.mk (0) (0)) (Span.mk (m350 a0.fLow a1.fLow) (m350 a0.fLow a1.fLow))) with | none => none | some r1 => bif decide (r1.t40 < r1.t39) then if (0 : Int) ≤ r1.t40 ∧ r1.t40 < (↑r1.t38.length : Int) then if 3 = 3 ∧ r1.t40.toNat < r1.t38.length then none else none else none else some (r1.b1)
theorem c349 (a0 : Span) (a1 : Span) : callR Tryz.prog (F349) 300 (an349) 349 (A349.c (a0, a1, (()), ())) [] 0 d349.rd = m349 a0 a1 := by kernel_rfl
def e349 : Orc → Orc := eL Tryz.prog 349 false A349 d349 (fun g => m349 g.1 g.2.1)
theorem e349_ok {F : Orc} (h : OrcG Tryz.prog F) : OrcG Tryz.prog (e349 F) := eL_ok (sc := scU) scU_ok (hl_of F349_ok fa349 (fun _ => by kernel_rfl) (fun _ => by kernel_rfl) fun g => c349 g.1 g.2.1) ⟨_, Tryz.func349, by kernel_rfl, by kernel_rfl⟩ (fun _ => by kernel_rfl) (fun _ => by kernel_rfl) h
def F339 : Orc := (e351 (e350 (e349 or0)))
theorem F339_ok : OrcG Tryz.prog F339 := (e351_ok (e350_ok (e349_ok or0_g)))
structure L339_0 where
 t207 : List Span
 t208 : Int
 t209 : Int
 b0 : Span
 b1 : Span
def d339_0 : Td 0 L339_0 := .c [] [6, 9, 207, 208, 209] (.r 0 2 (ec 6 (qp 0 0) (ec 9 (qp 1 0) (ec 207 (ql 331) (ec 208 (qi .i64) (ec 209 (qi .i64) en))))) (sb 0 331 (lg 331) (sb 1 331 (lg 331) sn)) (fun z => ⟨z.1.2.2.1, z.1.2.2.2.1, z.1.2.2.2.2.1, z.2.1, z.2.2.1⟩) (fun x => (((), (), x.t207, x.t208, x.t209, ()), (x.b0, x.b1, ()))) fun _ => rfl)
def n339_0 (p : L339_0) : Option (Option L339_0) :=
 bif decide (p.t209 < p.t208) then if (0 : Int) ≤ p.t209 ∧ p.t209 < (↑p.t207.length : Int) then some (some (L339_0.mk p.t207 p.t208 (i64.wrap (p.t209 + 1)) p.b0 (m351 p.b1 p.t207[p.t209.toNat]!))) else none else some (none)
theorem q339_0 (p : L339_0) : execA Tryz.prog (F339) Tryz.f339.ntmps 300 (loopAt Tryz.f339 0) .no (Option L339_0) (d339_0.pat p) (kOn d339_0.rd) = n339_0 p := by kernel_rfl
def a339_0 : L339_0 → Option L339_0 := advG (n339_0)
abbrev E339 : Type := Span
def d339 : Td 0 E339 := .c [] [6] (.r 0 1 (ec 6 (qp 0 0) en) (sb 0 331 (lg 331) sn) (fun z => z.2.1) (fun x => (((), ()), (x, ()))) fun _ => rfl)
def A339 := (lc (ql 131) (lc (qg 137) (lc (ql 331) ln)))
def an339 : An := (.two .no (.two (.two .no (.two .no (.two .no (.two .no (.two .no (.two .no (.two .no (.two .no (.two .no (.two .no (.two .no (.two .no (.two .no (.two .no (.two (.two .no (.two (.two (.rb [] 123) .no) .no)) (.two .no (.two .no (.two .no (.two .no (.two .no (.two .no (.two .no (.two (.two .no (.two (.two .no (d339_0.lp a339_0 .no)) .no)) .no))))))))))))))))))))))) .no))
theorem pu339  : ∀ f ∈ ([] : List Nat), PureF (F339) f := ob_nil
theorem fa339 : FnAn Tryz.prog (F339) 0 300 339 (an339) := fnAn_of (l := [(.skip, (.rb [] 123)), (loopAt Tryz.f339 0, (d339_0.lp a339_0 .no))]) Tryz.func339 (bodyOf_eq (by kernel_rfl)) (by kernel_rfl) (ob_cons pu339 (ob_cons ⟨d339_0.ok _, advG_ok (q339_0)⟩ ob_nil))
def m339 (a0 : List GVar) (a1 : GTerm) (a2 : List Span) : Option E339 :=
 bif decide (a1.fOp = 0) then some (Span.mk a1.fN a1.fN) else bif decide (a1.fOp = 24) then if (0 : Int) ≤ a1.fN ∧ a1.fN < (↑a0.length : Int) then if (0 : Int) ≤ a1.fN ∧ a1.fN < (↑a0.length : Int) then some (Span.mk a0[a1.fN.toNat]!.fLow a0[a1.fN.toNat]!.fHigh) else none else none else bif decide (a1.fOp = 6) then if (0 : Int) ≤ (0 : Int) ∧ (0 : Int) < (↑a2.length : Int) then if (0 : Int) ≤ (0 : Int) ∧ (0 : Int) < (↑a2.length : Int) then some (Span.mk (i64.wrap (0 - a2[0]!.fHigh)) (i64.wrap (0 - a2[0]!.fLow))) else none else none else bif decide (a1.fOp = 8) then if (0 : Int) ≤ (0 : Int) ∧ (0 : Int) < (↑a2.length : Int) then if (0 : Int) ≤ (1 : Int) ∧ (1 : Int) < (↑a2.length : Int) then if (0 : Int) ≤ (0 : Int) ∧ (0 : Int) < (↑a2.length : Int) then if (0 : Int) ≤ (1 : Int) ∧ (1 : Int) < (↑a2.length : Int) then some (Span.mk (i64.wrap (a2[0]!.fLow + a2[1]!.fLow)) (i64.wrap (a2[0]!.fHigh + a2[1]!.fHigh))) else none else none else none else none else bif decide (a1.fOp = 9) then if (0 : Int) ≤ (0 : Int) ∧ (0 : Int) < (↑a2.length : Int) then if (0 : Int) ≤ (1 : Int) ∧ (1 : Int) < (↑a2.length : Int) then if (0 : Int) ≤ (0 : Int) ∧ (0 : Int) < (↑a2.length : Int) then if (0 : Int) ≤ (1 : Int) ∧ (1 : Int) < (↑a2.length : Int) then some (Span.mk (i64.wrap (a2[0]!.fLow - a2[1]!.fHigh)) (i64.wrap (a2[0]!.fHigh - a2[1]!.fLow))) else none else none else none else none else bif decide (a1.fOp = 10) then if (0 : Int) ≤ (0 : Int) ∧ (0 : Int) < (↑a2.length : Int) then if (0 : Int) ≤ (1 : Int) ∧ (1 : Int) < (↑a2.length : Int) then match m349 a2[0]! a2[1]! with | none => none | some r1 => some (r1) else none else none else bif decide (a1.fOp = 11) then if (0 : Int) ≤ (0 : Int) ∧ (0 : Int) < (↑a2.length : Int) then if (0 : Int) ≤ (0 : Int) ∧ (0 : Int) < (↑a2.length : Int) then match if (0 : Int) ≤ (0 : Int) ∧ (0 : Int) < (↑a2.length : Int) then bif decide (0 ≤ a2[0]!.fLow) then if (0 : Int) ≤ (1 : Int) ∧ (1 : Int) < (↑a2.length : Int) then some (decide (0 ≤ a2[1]!.fLow)) else none else some (false) else none with | none => none | some r2 => bif r2 then some (Span.mk (0) (if a2[0]!.fHigh < i64.wrap (0 - a2[0]!.fLow) then i64.wrap (0 - a2[0]!.fLow) else a2[0]!.fHigh)) else some (Span.mk (i64.wrap (0 - if a2[0]!.fHigh < i64.wrap (0 - a2[0]!.fLow) then i64.wrap (0 - a2[0]!.fLow) else a2[0]!.fHigh)) (if a2[0]!.fHigh < i64.wrap (0 - a2[0]!.fLow) then i64.wrap (0 - a2[0]!.fLow) else a2[0]!.fHigh)) else none else none else bif decide (a1.fOp = 12) then if (0 : Int) ≤ (1 : Int) ∧ (1 : Int) < (↑a2.length : Int) then bif decide (a2[1]!.fLow < 0) then if (0 : Int) ≤ (1 : Int) ∧ (1 : Int) < (↑a2.length : Int) then if (0 : Int) ≤ (1 : Int) ∧ (1 : Int) < (↑a2.length : Int) then bif decide (0 < a2[1]!.fHigh) then if (0 : Int) ≤ (1 : Int) ∧ (1 : Int) < (↑a2.length : Int) then some (Span.mk (if 0 < i64.wrap (a2[1]!.fLow + 1) then 0 else i64.wrap (a2[1]!.fLow + 1)) (if i64.wrap (a2[1]!.fHigh - 1) < 0 then 0 else i64.wrap (a2[1]!.fHigh - 1))) else none else some (Span.mk (if 0 < i64.wrap (a2[1]!.fLow + 1) then 0 else i64.wrap (a2[1]!.fLow + 1)) (0)) else none else none else if (0 : Int) ≤ (1 : Int) ∧ (1 : Int) < (↑a2.length : Int) then bif decide (0 < a2[1]!.fHigh) then if (0 : Int) ≤ (1 : Int) ∧ (1 : Int) < (↑a2.length : Int) then some (Span.mk (0) (if i64.wrap (a2[1]!.fHigh - 1) < 0 then 0 else i64.wrap (a2[1]!.fHigh - 1))) else none else some (Span.mk (0) (0)) else none else none else bif decide (a1.fOp = 21) then if (0 : Int) ≤ (0 : Int) ∧ (0 : Int) < (↑a2.length : Int) then if (0 : Int) ≤ (1 : Int) ∧ (1 : Int) < (↑a2.length : Int) then if (0 : Int) ≤ (0 : Int) ∧ (0 : Int) < (↑a2.length : Int) then if (0 : Int) ≤ (1 : Int) ∧ (1 : Int) < (↑a2.length : Int) then some (Span.mk (if a2[1]!.fLow < a2[0]!.fLow then a2[1]!.fLow else a2[0]!.fLow) (if a2[1]!.fHigh < a2[0]!.fHigh then a2[1]!.fHigh else a2[0]!.fHigh)) else none else none else none else none else bif decide (a1.fOp = 22) then if (0 : Int) ≤ (0 : Int) ∧ (0 : Int) < (↑a2.length : Int) then if (0 : Int) ≤ (1 : Int) ∧ (1 : Int) < (↑a2.length : Int) then if (0 : Int) ≤ (0 : Int) ∧ (0 : Int) < (↑a2.length : Int) then if (0 : Int) ≤ (1 : Int) ∧ (1 : Int) < (↑a2.length : Int) then some (Span.mk (if a2[0]!.fLow < a2[1]!.fLow then a2[1]!.fLow else a2[0]!.fLow) (if a2[0]!.fHigh < a2[1]!.fHigh then a2[1]!.fHigh else a2[0]!.fHigh)) else none else none else none else none else bif decide (a1.fOp = 23) then if (0 : Int) ≤ (1 : Int) ∧ (1 : Int) < (↑a2.length : Int) then if (0 : Int) ≤ (2 : Int) ∧ (2 : Int) ≤ (↑a2.length : Int) then match a339_0 (L339_0.mk (List.drop 2 a2) (↑(List.drop 2 a2).length : Int) (0) (Span.mk (0) (0)) a2[1]!) with | none => none | some r3 => bif decide (r3.t209 < r3.t208) then if (0 : Int) ≤ r3.t209 ∧ r3.t209 < (↑r3.t207.length : Int) then none else none else some (r3.b1) else none else none else bif decide (a1.fOp = 25) then if (0 : Int) ≤ (1 : Int) ∧ (1 : Int) < (↑a2.length : Int) then if (0 : Int) ≤ (2 : Int) ∧ (2 : Int) ≤ (↑a2.length : Int) then match a339_0 (L339_0.mk (List.drop 2 a2) (↑(List.drop 2 a2).length : Int) (0) (Span.mk (0) (0)) a2[1]!) with | none => none | some r4 => bif decide (r4.t209 < r4.t208) then if (0 : Int) ≤ r4.t209 ∧ r4.t209 < (↑r4.t207.length : Int) then none else none else some (r4.b1) else none else none else some (Span.mk (0) (1))
theorem c339 (a0 : List GVar) (a1 : GTerm) (a2 : List Span) : callR Tryz.prog (F339) 300 (an339) 339 (A339.c (a0, a1, a2, ())) [] 0 d339.rd = m339 a0 a1 a2 := by kernel_rfl
def e339 : Orc → Orc := eL Tryz.prog 339 false A339 d339 (fun g => m339 g.1 g.2.1 g.2.2.1)
theorem e339_ok {F : Orc} (h : OrcG Tryz.prog F) : OrcG Tryz.prog (e339 F) := eL_ok (sc := scU) scU_ok (hl_of F339_ok fa339 (fun _ => by kernel_rfl) (fun _ => by kernel_rfl) fun g => c339 g.1 g.2.1 g.2.2.1) ⟨_, Tryz.func339, by kernel_rfl, by kernel_rfl⟩ (fun _ => by kernel_rfl) (fun _ => by kernel_rfl) h
abbrev E307 : Type := Span × Bool
def d307 : Td 0 E307 := .c [] [4, 5] (.r 0 1 (ec 4 (qp 0 0) (ec 5 qb en)) (sb 0 331 (lg 331) sn) (fun z => (z.2.1, z.1.2.1)) (fun x => (((), x.2, ()), (x.1, ()))) fun _ => rfl)
def A307 := (lc (ql 131) (lc (qg 137) ln))
def x307 (M : (List GVar) → GTerm → Option E307) : Orc → Orc := eL Tryz.prog 307 false A307 d307 (fun g => M g.1 g.2.1)
def H307 (M : (List GVar) → GTerm → Option E307) : Prop := HL Tryz.prog 307 A307 d307 (fun g => M g.1 g.2.1)
theorem x307_ok {M : (List GVar) → GTerm → Option E307} (hM : H307 M) {F : Orc} (h : OrcG Tryz.prog F) : OrcG Tryz.prog (x307 M F) := eL_ok (sc := scU) scU_ok hM ⟨_, Tryz.func307, by kernel_rfl, by kernel_rfl⟩ (fun _ => by kernel_rfl) (fun _ => by kernel_rfl) h
def F307 (M307 : (List GVar) → GTerm → Option E307) : Orc := (e339 (x307 M307 or0))
theorem F307_ok {M307} (h307 : H307 M307) : OrcG Tryz.prog (F307 M307) := (e339_ok (x307_ok h307 or0_g))
structure L307_0 where
 t0 : List GVar
 t6 : List Span
 t13 : List GTerm
 t14 : Int
 t15 : Int
 b0 : GTerm
 b1 : Span
def d307_0 : Td 0 L307_0 := .c [] [0, 3, 4, 6, 13, 14, 15] (.t (TurnOk.s 6 [] 331) (.c [] [0, 3, 4, 6, 13, 14, 15] (.r 0 3 (ec 0 (ql 131) (ec 3 (qp 0 0) (ec 4 (qp 1 0) (ec 6 (qo 2) (ec 13 (ql 137) (ec 14 (qi .i64) (ec 15 (qi .i64) en))))))) (sb 0 137 (lg 137) (sb 1 331 (lg 331) (sr 2 331 sn))) (fun z => ⟨z.1.1, z.2.2.2.1, z.1.2.2.2.2.1, z.1.2.2.2.2.2.1, z.1.2.2.2.2.2.2.1, z.2.1, z.2.2.1⟩) (fun x => ((x.t0, (), (), (), x.t13, x.t14, x.t15, ()), (x.b0, x.b1, x.t6, ()))) fun _ => rfl)))
def n307_0 (M307 : (List GVar) → GTerm → Option E307) (p : L307_0) : Option (Option L307_0) :=
 bif decide (p.t15 < p.t14) then if (0 : Int) ≤ p.t15 ∧ p.t15 < (↑p.t13.length : Int) then match M307 p.t0 (GTerm.mk p.t13[p.t15.toNat]!.fOp p.t13[p.t15.toNat]!.fN p.t13[p.t15.toNat]!.fKids) with | none => none | some r1 => bif bif r1.snd then false else true then some (none) else if (p.t6 ++ [r1.fst]).length ≤ 1073741824 then some (some (L307_0.mk p.t0 (p.t6 ++ [r1.fst]) p.t13 p.t14 (i64.wrap (p.t15 + 1)) (GTerm.mk p.b0.fOp p.b0.fN p.b0.fKids) p.b1)) else none else none else some (none)
theorem q307_0 (M307 : (List GVar) → GTerm → Option E307) (p : L307_0) : execA Tryz.prog (F307 M307) Tryz.f307.ntmps 300 (loopAt Tryz.f307 0) .no (Option L307_0) (d307_0.pat p) (kOn d307_0.rd) = n307_0 M307 p := by kernel_rfl
def a307_0 (M307 : (List GVar) → GTerm → Option E307) : L307_0 → Option L307_0 := advG (n307_0 M307)
def an307 (M307 : (List GVar) → GTerm → Option E307) : An := (.two .no (.two .no (.two (.two .no (d307_0.lp (a307_0 M307) .no)) .no)))
theorem fa307 (M307 : (List GVar) → GTerm → Option E307) : FnAn Tryz.prog (F307 M307) 0 300 307 (an307 M307) := fnAn_of (l := [(loopAt Tryz.f307 0, (d307_0.lp (a307_0 M307) .no))]) Tryz.func307 (bodyOf_eq (by kernel_rfl)) (by kernel_rfl) (ob_cons ⟨d307_0.ok _, advG_ok (q307_0 M307)⟩ ob_nil)
def s307 (M307 : (List GVar) → GTerm → Option E307) (a0 : List GVar) (a1 : GTerm) : Option E307 :=
 match a307_0 M307 (L307_0.mk a0 [] a1.fKids (↑a1.fKids.length : Int) (0) (GTerm.mk a1.fOp a1.fN a1.fKids) (Span.mk (0) (0))) with | none => none | some r2 => bif decide (r2.t15 < r2.t14) then if (0 : Int) ≤ r2.t15 ∧ r2.t15 < (↑r2.t13.length : Int) then match M307 r2.t0 (GTerm.mk r2.t13[r2.t15.toNat]!.fOp r2.t13[r2.t15.toNat]!.fN r2.t13[r2.t15.toNat]!.fKids) with | none => none | some r3 => bif bif r3.snd then false else true then some ((Span.mk (0) (0), false)) else if (r2.t6 ++ [r3.fst]).length ≤ 1073741824 then none else none else none else match m339 r2.t0 (GTerm.mk r2.b0.fOp r2.b0.fN r2.b0.fKids) r2.t6 with | none => none | some r4 => bif decide (-1048576 ≤ r4.fLow) then some ((r4, decide (r4.fHigh ≤ 1048576))) else some ((r4, false))
theorem c307 (M307 : (List GVar) → GTerm → Option E307) (a0 : List GVar) (a1 : GTerm) : callR Tryz.prog (F307 M307) 300 (an307 M307) 307 (A307.c (a0, a1, ())) [] 0 d307.rd = s307 M307 a0 a1 := by kernel_rfl
def mm307 : Nat → ((List GVar) → GTerm → Option E307)
 | 0 => (fun _ _ => none)
 | n + 1 => (s307 (mm307 n))
def m307 (n : Nat) : (List GVar) → GTerm → Option E307 := (mm307 n)
theorem mm307_ok : ∀ n, H307 (m307 n)
 | 0 => fun _ _ h => (by cases h)
 | n + 1 => by
  have ih := mm307_ok n
  have i307 := ih
  exact (hl_of (F307_ok i307) (fa307 (m307 n)) (fun _ => by kernel_rfl) (fun _ => by kernel_rfl) fun g => c307 (m307 n) g.1 g.2.1)
def r307 : (List GVar) → GTerm → Option E307 := fun a0 a1 => lim (fun n => m307 n a0 a1)
theorem r307_ok : H307 r307 := fun g b h => by
 obtain ⟨n, hn⟩ := lim_some (show lim (fun n => m307 n g.1 g.2.1) = some b from h)
 exact (mm307_ok n) g b hn
def e307 (F : Orc) : Orc := x307 r307 F
theorem e307_ok {F : Orc} (h : OrcG Tryz.prog F) : OrcG Tryz.prog (e307 F) := x307_ok r307_ok h
def F267 : Orc := (e307 (e306 or0))
theorem F267_ok : OrcG Tryz.prog F267 := (e307_ok (e306_ok or0_g))
abbrev E267 : Type := Int
def d267 : Td 0 E267 := .c [] [6] (.r 0 0 (ec 6 (qi .i64) en) sn (fun z => z.1.1) (fun x => ((x, ()), (()))) fun _ => rfl)
def A267 := (lc (ql 131) (lc (qg 137) (lc qb ln)))
def an267 : An := .no
theorem fa267 : FnAn Tryz.prog (F267) 0 300 267 (an267) := fnAn_of (l := []) Tryz.func267 (bodyOf_eq (by kernel_rfl)) (by kernel_rfl) ob_nil
def m267 (a0 : List GVar) (a1 : GTerm) (a2 : Bool) : Option E267 :=
 match r306 a0 (GTerm.mk a1.fOp a1.fN a1.fKids) a2 with | none => none | some r1 => bif bif r1 then false else true then some (1) else match r307 a0 (GTerm.mk a1.fOp a1.fN a1.fKids) with | none => none | some r2 => bif bif r2.snd then false else true then some (3) else some (0)
theorem c267 (a0 : List GVar) (a1 : GTerm) (a2 : Bool) : callR Tryz.prog (F267) 300 (an267) 267 (A267.c (a0, a1, a2, ())) [] 0 d267.rd = m267 a0 a1 a2 := by kernel_rfl
def e267 : Orc → Orc := eL Tryz.prog 267 false A267 d267 (fun g => m267 g.1 g.2.1 g.2.2.1)
theorem e267_ok {F : Orc} (h : OrcG Tryz.prog F) : OrcG Tryz.prog (e267 F) := eL_ok (sc := scU) scU_ok (hl_of F267_ok fa267 (fun _ => by kernel_rfl) (fun _ => by kernel_rfl) fun g => c267 g.1 g.2.1 g.2.2.1) ⟨_, Tryz.func267, by kernel_rfl, by kernel_rfl⟩ (fun _ => by kernel_rfl) (fun _ => by kernel_rfl) h
theorem e267_pure {F : Orc} {f : Nat} (h : PureF F f) : PureF (e267 F) f := orL_pure h (fun _ => by kernel_rfl)
def F211 : Orc := (e267 (e266 (e263 (e261 or0))))
theorem F211_ok : OrcG Tryz.prog F211 := (e267_ok (e266_ok (e263_ok (e261_ok or0_g))))
structure L211_0 where
 t8 : List Hatch
 t9 : Int
 t10 : Int
 b0 : Flat
def d211_0 : Td 0 L211_0 := .c [] [1, 8, 9, 10] (.r 0 1 (ec 1 (qp 0 0) (ec 8 (ql 139) (ec 9 (qi .i64) (ec 10 (qi .i64) en)))) (sb 0 26 (lg 26) sn) (fun z => ⟨z.1.2.1, z.1.2.2.1, z.1.2.2.2.1, z.2.1⟩) (fun x => (((), x.t8, x.t9, x.t10, ()), (x.b0, ()))) fun _ => rfl)
def n211_0 (p : L211_0) : Option (Option L211_0) :=
 bif decide (p.t10 < p.t9) then if (0 : Int) ≤ p.t10 ∧ p.t10 < (↑p.t8.length : Int) then match m261 p.t8[p.t10.toNat]!.fName with | none => none | some r1 => bif bif r1 then false else true then some (none) else if (0 : Int) ≤ p.t10 ∧ p.t10 ≤ (↑p.b0.fHatches.length : Int) then match m266 (List.take p.t10.toNat p.b0.fHatches) (Hatch.mk p.t8[p.t10.toNat]!.fName p.t8[p.t10.toNat]!.fLow p.t8[p.t10.toNat]!.fHigh (GTerm.mk p.t8[p.t10.toNat]!.fTerm.fOp p.t8[p.t10.toNat]!.fTerm.fN p.t8[p.t10.toNat]!.fTerm.fKids)) with | none => none | some r2 => bif r2 then some (none) else bif bif m263 p.t8[p.t10.toNat]!.fLow p.t8[p.t10.toNat]!.fHigh then false else true then some (none) else match m267 p.b0.fVars (GTerm.mk p.t8[p.t10.toNat]!.fTerm.fOp p.t8[p.t10.toNat]!.fTerm.fN p.t8[p.t10.toNat]!.fTerm.fKids) true with | none => none | some r3 => bif bif decide (r3 = 0) then false else true then some (none) else some (some (L211_0.mk p.t8 p.t9 (i64.wrap (p.t10 + 1)) p.b0)) else none else none else some (none)
theorem q211_0 (p : L211_0) : execA Tryz.prog (F211) Tryz.f211.ntmps 300 (loopAt Tryz.f211 0) .no (Option L211_0) (d211_0.pat p) (kOn d211_0.rd) = n211_0 p := by kernel_rfl
def a211_0 : L211_0 → Option L211_0 := advG (n211_0)
abbrev E211 : Type := Int
def d211 : Td 0 E211 := .c [] [2] (.r 0 0 (ec 2 (qi .i64) en) sn (fun z => z.1.1) (fun x => ((x, ()), (()))) fun _ => rfl)
def A211 := (lc (qg 26) ln)
def an211 : An := (.two .no (.two (.two .no (d211_0.lp a211_0 .no)) .no))
theorem fa211 : FnAn Tryz.prog (F211) 0 300 211 (an211) := fnAn_of (l := [(loopAt Tryz.f211 0, (d211_0.lp a211_0 .no))]) Tryz.func211 (bodyOf_eq (by kernel_rfl)) (by kernel_rfl) (ob_cons ⟨d211_0.ok _, advG_ok (q211_0)⟩ ob_nil)
def m211 (a0 : Flat) : Option E211 :=
 match a211_0 (L211_0.mk a0.fHatches (↑a0.fHatches.length : Int) (0) a0) with | none => none | some r4 => bif decide (r4.t10 < r4.t9) then if (0 : Int) ≤ r4.t10 ∧ r4.t10 < (↑r4.t8.length : Int) then match m261 r4.t8[r4.t10.toNat]!.fName with | none => none | some r5 => bif bif r5 then false else true then some (7) else if (0 : Int) ≤ r4.t10 ∧ r4.t10 ≤ (↑r4.b0.fHatches.length : Int) then match m266 (List.take r4.t10.toNat r4.b0.fHatches) (Hatch.mk r4.t8[r4.t10.toNat]!.fName r4.t8[r4.t10.toNat]!.fLow r4.t8[r4.t10.toNat]!.fHigh (GTerm.mk r4.t8[r4.t10.toNat]!.fTerm.fOp r4.t8[r4.t10.toNat]!.fTerm.fN r4.t8[r4.t10.toNat]!.fTerm.fKids)) with | none => none | some r6 => bif r6 then some (8) else bif bif m263 r4.t8[r4.t10.toNat]!.fLow r4.t8[r4.t10.toNat]!.fHigh then false else true then some (3) else match m267 r4.b0.fVars (GTerm.mk r4.t8[r4.t10.toNat]!.fTerm.fOp r4.t8[r4.t10.toNat]!.fTerm.fN r4.t8[r4.t10.toNat]!.fTerm.fKids) true with | none => none | some r7 => bif bif decide (r7 = 0) then false else true then some (r7) else none else none else none else some (0)
theorem c211 (a0 : Flat) : callR Tryz.prog (F211) 300 (an211) 211 (A211.c (a0, ())) [] 0 d211.rd = m211 a0 := by kernel_rfl
def e211 : Orc → Orc := eL Tryz.prog 211 false A211 d211 (fun g => m211 g.1)
theorem e211_ok {F : Orc} (h : OrcG Tryz.prog F) : OrcG Tryz.prog (e211 F) := eL_ok (sc := scU) scU_ok (hl_of F211_ok fa211 (fun _ => by kernel_rfl) (fun _ => by kernel_rfl) fun g => c211 g.1) ⟨_, Tryz.func211, by kernel_rfl, by kernel_rfl⟩ (fun _ => by kernel_rfl) (fun _ => by kernel_rfl) h
def F308 : Orc := or0
theorem F308_ok : OrcG Tryz.prog F308 := or0_g
abbrev E308 : Type := Bool
def d308 : Td 0 E308 := .c [] [2] (.r 0 0 (ec 2 qb en) sn (fun z => z.1.1) (fun x => ((x, ()), (()))) fun _ => rfl)
def A308 := (lc (qi .i64) ln)
def an308 : An := (.two .no (.two (.rb [] 2) .no))
theorem pu308  : ∀ f ∈ ([] : List Nat), PureF (F308) f := ob_nil
theorem fa308 : FnAn Tryz.prog (F308) 0 300 308 (an308) := fnAn_of (l := [(.skip, (.rb [] 2))]) Tryz.func308 (bodyOf_eq (by kernel_rfl)) (by kernel_rfl) (ob_cons pu308 ob_nil)
def m308 (a0 : Int) : E308 :=
 let r1 : Bool := bif decide (a0 = 0) then true else decide (a0 = 5); r1
theorem c308 (a0 : Int) : callR Tryz.prog (F308) 300 (an308) 308 (A308.c (a0, ())) [] 0 d308.rd = some (m308 a0) := by
 refine Eq.trans (b := (
  match bif decide (a0 = 0) then some (true) else some (decide (a0 = 5)) with | none => none | some r1 => some (r1) : Option E308)) (by kernel_rfl) ?_
 simp only [m308, cond_some, ite_some]
def e308 : Orc → Orc := eL Tryz.prog 308 false A308 d308 (fun g => some (m308 g.1))
theorem e308_ok {F : Orc} (h : OrcG Tryz.prog F) : OrcG Tryz.prog (e308 F) := eL_ok (sc := scU) scU_ok (hl_of F308_ok fa308 (fun _ => by kernel_rfl) (fun _ => by kernel_rfl) fun g => c308 g.1) ⟨_, Tryz.func308, by kernel_rfl, by kernel_rfl⟩ (fun _ => by kernel_rfl) (fun _ => by kernel_rfl) h
theorem e308_pure {F : Orc} {f : Nat} (h : PureF F f) : PureF (e308 F) f := orL_pure h (fun _ => by kernel_rfl)
def F309 : Orc := or0
theorem F309_ok : OrcG Tryz.prog F309 := or0_g
abbrev E309 : Type := Bool
def d309 : Td 0 E309 := .c [] [2] (.r 0 0 (ec 2 qb en) sn (fun z => z.1.1) (fun x => ((x, ()), (()))) fun _ => rfl)
def A309 := (lc (qi .i64) ln)
def an309 : An := (.two .no (.two (.rb [] 2) .no))
theorem pu309  : ∀ f ∈ ([] : List Nat), PureF (F309) f := ob_nil
theorem fa309 : FnAn Tryz.prog (F309) 0 300 309 (an309) := fnAn_of (l := [(.skip, (.rb [] 2))]) Tryz.func309 (bodyOf_eq (by kernel_rfl)) (by kernel_rfl) (ob_cons pu309 ob_nil)
def m309 (a0 : Int) : E309 :=
 let r1 : Bool := bif decide (a0 = 4) then true else decide (a0 = 5); r1
theorem c309 (a0 : Int) : callR Tryz.prog (F309) 300 (an309) 309 (A309.c (a0, ())) [] 0 d309.rd = some (m309 a0) := by
 refine Eq.trans (b := (
  match bif decide (a0 = 4) then some (true) else some (decide (a0 = 5)) with | none => none | some r1 => some (r1) : Option E309)) (by kernel_rfl) ?_
 simp only [m309, cond_some, ite_some]
def e309 : Orc → Orc := eL Tryz.prog 309 false A309 d309 (fun g => some (m309 g.1))
theorem e309_ok {F : Orc} (h : OrcG Tryz.prog F) : OrcG Tryz.prog (e309 F) := eL_ok (sc := scU) scU_ok (hl_of F309_ok fa309 (fun _ => by kernel_rfl) (fun _ => by kernel_rfl) fun g => c309 g.1) ⟨_, Tryz.func309, by kernel_rfl, by kernel_rfl⟩ (fun _ => by kernel_rfl) (fun _ => by kernel_rfl) h
theorem e309_pure {F : Orc} {f : Nat} (h : PureF F f) : PureF (e309 F) f := orL_pure h (fun _ => by kernel_rfl)
def F310 : Orc := or0
theorem F310_ok : OrcG Tryz.prog F310 := or0_g
abbrev E310 : Type := Bool
def d310 : Td 0 E310 := .c [] [2] (.r 0 0 (ec 2 qb en) sn (fun z => z.1.1) (fun x => ((x, ()), (()))) fun _ => rfl)
def A310 := (lc (qi .i64) ln)
def an310 : An := (.two .no (.two (.rb [] 2) .no))
theorem pu310  : ∀ f ∈ ([] : List Nat), PureF (F310) f := ob_nil
theorem fa310 : FnAn Tryz.prog (F310) 0 300 310 (an310) := fnAn_of (l := [(.skip, (.rb [] 2))]) Tryz.func310 (bodyOf_eq (by kernel_rfl)) (by kernel_rfl) (ob_cons pu310 ob_nil)
def m310 (a0 : Int) : E310 :=
 let r1 : Bool := bif decide (a0 = 0) then true else bif decide (a0 = 1) then true else bif decide (a0 = 3) then true else decide (a0 = 4); r1
theorem c310 (a0 : Int) : callR Tryz.prog (F310) 300 (an310) 310 (A310.c (a0, ())) [] 0 d310.rd = some (m310 a0) := by
 refine Eq.trans (b := (
  match bif decide (a0 = 0) then some (true) else bif decide (a0 = 1) then some (true) else bif decide (a0 = 3) then some (true) else some (decide (a0 = 4)) with | none => none | some r1 => some (r1) : Option E310)) (by kernel_rfl) ?_
 simp only [m310, cond_some, ite_some]
def e310 : Orc → Orc := eL Tryz.prog 310 false A310 d310 (fun g => some (m310 g.1))
theorem e310_ok {F : Orc} (h : OrcG Tryz.prog F) : OrcG Tryz.prog (e310 F) := eL_ok (sc := scU) scU_ok (hl_of F310_ok fa310 (fun _ => by kernel_rfl) (fun _ => by kernel_rfl) fun g => c310 g.1) ⟨_, Tryz.func310, by kernel_rfl, by kernel_rfl⟩ (fun _ => by kernel_rfl) (fun _ => by kernel_rfl) h
theorem e310_pure {F : Orc} {f : Nat} (h : PureF F f) : PureF (e310 F) f := orL_pure h (fun _ => by kernel_rfl)
def F311 : Orc := or0
theorem F311_ok : OrcG Tryz.prog F311 := or0_g
abbrev E311 : Type := Bool
def d311 : Td 0 E311 := .c [] [2] (.r 0 0 (ec 2 qb en) sn (fun z => z.1.1) (fun x => ((x, ()), (()))) fun _ => rfl)
def A311 := (lc (qg 137) ln)
def an311 : An := (.two .no (.two (.rb [] 2) .no))
theorem pu311  : ∀ f ∈ ([] : List Nat), PureF (F311) f := ob_nil
theorem fa311 : FnAn Tryz.prog (F311) 0 300 311 (an311) := fnAn_of (l := [(.skip, (.rb [] 2))]) Tryz.func311 (bodyOf_eq (by kernel_rfl)) (by kernel_rfl) (ob_cons pu311 ob_nil)
def m311 (a0 : GTerm) : E311 :=
 let r1 : Bool := bif decide (a0.fOp = 0) then bif decide (a0.fN = 0) then decide ((↑a0.fKids.length : Int) = 0) else false else false; r1
theorem c311 (a0 : GTerm) : callR Tryz.prog (F311) 300 (an311) 311 (A311.c (a0, ())) [] 0 d311.rd = some (m311 a0) := by
 refine Eq.trans (b := (
  match bif decide (a0.fOp = 0) then bif decide (a0.fN = 0) then some (decide ((↑a0.fKids.length : Int) = 0)) else some (false) else some (false) with | none => none | some r1 => some (r1) : Option E311)) (by kernel_rfl) ?_
 simp only [m311, cond_some, ite_some]
def e311 : Orc → Orc := eL Tryz.prog 311 false A311 d311 (fun g => some (m311 g.1))
theorem e311_ok {F : Orc} (h : OrcG Tryz.prog F) : OrcG Tryz.prog (e311 F) := eL_ok (sc := scU) scU_ok (hl_of F311_ok fa311 (fun _ => by kernel_rfl) (fun _ => by kernel_rfl) fun g => c311 g.1) ⟨_, Tryz.func311, by kernel_rfl, by kernel_rfl⟩ (fun _ => by kernel_rfl) (fun _ => by kernel_rfl) h
theorem e311_pure {F : Orc} {f : Nat} (h : PureF F f) : PureF (e311 F) f := orL_pure h (fun _ => by kernel_rfl)
def F312 : Orc := or0
theorem F312_ok : OrcG Tryz.prog F312 := or0_g
structure L312_0 where
 t0 : List Int
 t5 : Int
 t6 : Int
def d312_0 : Td 0 L312_0 := .c [] [0, 5, 6] (.r 0 0 (ec 0 (ql 3) (ec 5 (qi .i64) (ec 6 (qi .i64) en))) sn (fun z => ⟨z.1.1, z.1.2.1, z.1.2.2.1⟩) (fun x => ((x.t0, x.t5, x.t6, ()), (()))) fun _ => rfl)
def n312_0 (p : L312_0) : Option (Option L312_0) :=
 bif decide (p.t6 < p.t5) then bif decide (0 < p.t6) then if (0 : Int) ≤ p.t6 ∧ p.t6 < (↑p.t0.length : Int) then if (0 : Int) ≤ i64.wrap (p.t6 - (1 : Int)) ∧ i64.wrap (p.t6 - (1 : Int)) < (↑p.t0.length : Int) then bif decide (((p.t0, p.t5, p.t6, ()), ()).fst.fst[((p.t0, p.t5, p.t6, ()), ()).fst.snd.snd.fst.toNat]! ≤ ((p.t0, p.t5, p.t6, ()), ()).fst.fst[(i64.wrap (((p.t0, p.t5, p.t6, ()), ()).fst.snd.snd.fst - 1)).toNat]!) then some (none) else some (some (L312_0.mk p.t0 p.t5 (i64.wrap (p.t6 + 1)))) else none else none else some (some (L312_0.mk p.t0 p.t5 (i64.wrap (p.t6 + 1)))) else some (none)
theorem q312_0 (p : L312_0) : execA Tryz.prog (F312) Tryz.f312.ntmps 300 (loopAt Tryz.f312 0) .no (Option L312_0) (d312_0.pat p) (kOn d312_0.rd) = n312_0 p := by kernel_rfl
def a312_0 : L312_0 → Option L312_0 := advG (n312_0)
abbrev E312 : Type := Bool
def d312 : Td 0 E312 := .c [] [2] (.r 0 0 (ec 2 qb en) sn (fun z => z.1.1) (fun x => ((x, ()), (()))) fun _ => rfl)
def A312 := (lc (ql 3) ln)
def an312 : An := (.two .no (.two (.two .no (d312_0.lp a312_0 .no)) .no))
theorem fa312 : FnAn Tryz.prog (F312) 0 300 312 (an312) := fnAn_of (l := [(loopAt Tryz.f312 0, (d312_0.lp a312_0 .no))]) Tryz.func312 (bodyOf_eq (by kernel_rfl)) (by kernel_rfl) (ob_cons ⟨d312_0.ok _, advG_ok (q312_0)⟩ ob_nil)
def m312 (a0 : List Int) : Option E312 :=
 match a312_0 (L312_0.mk a0 (↑a0.length : Int) (0)) with | none => none | some r1 => bif decide (r1.t6 < r1.t5) then bif decide (0 < r1.t6) then if (0 : Int) ≤ r1.t6 ∧ r1.t6 < (↑r1.t0.length : Int) then if (0 : Int) ≤ i64.wrap (r1.t6 - (1 : Int)) ∧ i64.wrap (r1.t6 - (1 : Int)) < (↑r1.t0.length : Int) then bif decide (((r1.t0, r1.t5, r1.t6, ()), ()).fst.fst[((r1.t0, r1.t5, r1.t6, ()), ()).fst.snd.snd.fst.toNat]! ≤ ((r1.t0, r1.t5, r1.t6, ()), ()).fst.fst[(i64.wrap (((r1.t0, r1.t5, r1.t6, ()), ()).fst.snd.snd.fst - 1)).toNat]!) then some (false) else none else none else none else none else some (true)
theorem c312 (a0 : List Int) : callR Tryz.prog (F312) 300 (an312) 312 (A312.c (a0, ())) [] 0 d312.rd = m312 a0 := by kernel_rfl
def e312 : Orc → Orc := eL Tryz.prog 312 false A312 d312 (fun g => m312 g.1)
theorem e312_ok {F : Orc} (h : OrcG Tryz.prog F) : OrcG Tryz.prog (e312 F) := eL_ok (sc := scU) scU_ok (hl_of F312_ok fa312 (fun _ => by kernel_rfl) (fun _ => by kernel_rfl) fun g => c312 g.1) ⟨_, Tryz.func312, by kernel_rfl, by kernel_rfl⟩ (fun _ => by kernel_rfl) (fun _ => by kernel_rfl) h
theorem e312_pure {F : Orc} {f : Nat} (h : PureF F f) : PureF (e312 F) f := orL_pure h (fun _ => by kernel_rfl)
def F268 : Orc := (e312 (e311 (e310 (e309 (e308 or0)))))
theorem F268_ok : OrcG Tryz.prog F268 := (e312_ok (e311_ok (e310_ok (e309_ok (e308_ok or0_g)))))
abbrev E268 : Type := Bool
def d268 : Td 0 E268 := .c [] [6] (.r 0 0 (ec 6 qb en) sn (fun z => z.1.1) (fun x => ((x, ()), (()))) fun _ => rfl)
def A268 := (lc (qg 26) (lc (qg 166) (lc qb ln)))
def an268 : An := (.two .no (.two .no (.two (.two (.two (.rb [308, 309, 310, 311, 312] 10) (.two .no (.two (.rb [308, 309, 310, 311, 312] 10) (.two .no (.two (.rb [308, 309, 310, 311, 312] 10) (.two .no (.two (.rb [308, 309, 310, 311, 312] 10) (.two .no (.two (.rb [308, 309, 310, 311, 312] 10) (.two .no (.two (.rb [308, 309, 310, 311, 312] 10) (.two .no (.two (.rb [308, 309, 310, 311, 312] 10) (.two .no (.two (.rb [308, 309, 310, 311, 312] 10) (.two .no (.rb [308, 309, 310, 311, 312] 10))))))))))))))))) .no) (.two (.rb [308, 309, 310, 311, 312] 6) .no))))
theorem pu268  : ∀ f ∈ ([308, 309, 310, 311, 312] : List Nat), PureF (F268) f := (ob_cons (e312_pure (e311_pure (e310_pure (e309_pure (e308_pure or0_pure))))) (ob_cons (e312_pure (e311_pure (e310_pure (e309_pure (e308_pure or0_pure))))) (ob_cons (e312_pure (e311_pure (e310_pure (e309_pure (e308_pure or0_pure))))) (ob_cons (e312_pure (e311_pure (e310_pure (e309_pure (e308_pure or0_pure))))) (ob_cons (e312_pure (e311_pure (e310_pure (e309_pure (e308_pure or0_pure))))) ob_nil)))))
theorem fa268 : FnAn Tryz.prog (F268) 0 300 268 (an268) := fnAn_of (l := [(.skip, (.rb [308, 309, 310, 311, 312] 10)), (.skip, (.rb [308, 309, 310, 311, 312] 10)), (.skip, (.rb [308, 309, 310, 311, 312] 10)), (.skip, (.rb [308, 309, 310, 311, 312] 10)), (.skip, (.rb [308, 309, 310, 311, 312] 10)), (.skip, (.rb [308, 309, 310, 311, 312] 10)), (.skip, (.rb [308, 309, 310, 311, 312] 10)), (.skip, (.rb [308, 309, 310, 311, 312] 10)), (.skip, (.rb [308, 309, 310, 311, 312] 10)), (.skip, (.rb [308, 309, 310, 311, 312] 6))]) Tryz.func268 (bodyOf_eq (by kernel_rfl)) (by kernel_rfl) (ob_cons pu268 (ob_cons pu268 (ob_cons pu268 (ob_cons pu268 (ob_cons pu268 (ob_cons pu268 (ob_cons pu268 (ob_cons pu268 (ob_cons pu268 (ob_cons pu268 ob_nil))))))))))
def m268 (a0 : Flat) (a1 : GStep) (a2 : Bool) : Option E268 :=
 match bif decide (a1.fDo < 0) then some (true) else some (decide (6 < a1.fDo)) with | none => none | some r1 => bif r1 then some (false) else match bif bif m308 a1.fDo then false else true then some (bif decide (a1.fVar = 0) then false else true) else some (false) with | none => none | some r2 => bif r2 then some (false) else match bif bif m309 a1.fDo then false else true then some (bif decide (a1.fN = 0) then false else true) else some (false) with | none => none | some r3 => bif r3 then some (false) else match bif bif m310 a1.fDo then false else true then some (bif m311 (GTerm.mk a1.fTerm.fOp a1.fTerm.fN a1.fTerm.fKids) then false else true) else some (false) with | none => none | some r4 => bif r4 then some (false) else match bif bif decide (a1.fDo = 3) then false else true then bif bif decide (a1.fDo = 4) then false else true then some (decide (0 < (↑a1.fThen.length : Int))) else some (false) else some (false) with | none => none | some r5 => bif r5 then some (false) else match bif bif decide (a1.fDo = 3) then false else true then some (decide (0 < (↑a1.fElse.length : Int))) else some (false) with | none => none | some r6 => bif r6 then some (false) else match bif bif decide (a1.fDo = 6) then false else true then some (decide (0 < (↑a1.fBounds.length : Int))) else some (false) with | none => none | some r7 => bif r7 then some (false) else match bif m308 a1.fDo then bif decide (a1.fVar < 0) then some (true) else bif decide ((↑a0.fVars.length : Int) ≤ a1.fVar) then some (true) else if (0 : Int) ≤ a1.fVar ∧ a1.fVar < (↑a0.fVars.length : Int) then some (bif decide (a0.fVars[a1.fVar.toNat]!.fKind = 0) then false else true) else none else some (false) with | none => none | some r8 => bif r8 then some (false) else match bif decide (a1.fDo = 5) then bif decide (a1.fN < 0) then some (true) else some (decide ((↑a0.fHatches.length : Int) ≤ a1.fN)) else some (false) with | none => none | some r9 => bif r9 then some (false) else match bif bif decide (a1.fDo = 6) then false else true then some (true) else bif a2 then bif decide (0 < (↑a1.fBounds.length : Int)) then bif decide ((↑a1.fBounds.length : Int) ≤ 32) then if (0 : Int) ≤ (0 : Int) ∧ (0 : Int) < (↑a1.fBounds.length : Int) then bif decide (0 ≤ a1.fBounds[Int.toNat 0]!) then match m312 a1.fBounds with | none => none | some r10 => some (r10) else some (false) else none else some (false) else some (false) else some (false) with | none => none | some r11 => some (r11)
theorem c268 (a0 : Flat) (a1 : GStep) (a2 : Bool) : callR Tryz.prog (F268) 300 (an268) 268 (A268.c (a0, a1, a2, ())) [] 0 d268.rd = m268 a0 a1 a2 := by kernel_rfl
def e268 : Orc → Orc := eL Tryz.prog 268 false A268 d268 (fun g => m268 g.1 g.2.1 g.2.2.1)
theorem e268_ok {F : Orc} (h : OrcG Tryz.prog F) : OrcG Tryz.prog (e268 F) := eL_ok (sc := scU) scU_ok (hl_of F268_ok fa268 (fun _ => by kernel_rfl) (fun _ => by kernel_rfl) fun g => c268 g.1 g.2.1 g.2.2.1) ⟨_, Tryz.func268, by kernel_rfl, by kernel_rfl⟩ (fun _ => by kernel_rfl) (fun _ => by kernel_rfl) h
theorem e268_pure {F : Orc} {f : Nat} (h : PureF F f) : PureF (e268 F) f := orL_pure h (fun _ => by kernel_rfl)
def F269 : Orc := or0
theorem F269_ok : OrcG Tryz.prog F269 := or0_g
abbrev E269 : Type := Bool
def d269 : Td 0 E269 := .c [] [2] (.r 0 0 (ec 2 qb en) sn (fun z => z.1.1) (fun x => ((x, ()), (()))) fun _ => rfl)
def A269 := (lc (qg 166) ln)
def an269 : An := (.two .no (.two .no (.two .no (.two (.two (.rb [] 30) .no) (.two (.rb [] 2) .no)))))
theorem pu269  : ∀ f ∈ ([] : List Nat), PureF (F269) f := ob_nil
theorem fa269 : FnAn Tryz.prog (F269) 0 300 269 (an269) := fnAn_of (l := [(.skip, (.rb [] 30)), (.skip, (.rb [] 2))]) Tryz.func269 (bodyOf_eq (by kernel_rfl)) (by kernel_rfl) (ob_cons pu269 (ob_cons pu269 ob_nil))
def m269 (a0 : GStep) : Option E269 :=
 bif decide (a0.fDo = 2) then match bif decide (a0.fCost < 0) then some (true) else bif decide (67108864 < a0.fCost) then some (true) else bif decide (a0.fDo = 4) then bif decide (a0.fN < 0) then some (true) else some (decide (4096 < a0.fN)) else some (false) with | none => none | some r1 => bif r1 then some (false) else match bif bif decide (a0.fDo = 6) then false else true then some (true) else if (0 : Int) ≤ i64.wrap ((↑a0.fBounds.length : Int) - (1 : Int)) ∧ i64.wrap ((↑a0.fBounds.length : Int) - (1 : Int)) < (↑a0.fBounds.length : Int) then some (decide (a0.fBounds[(i64.wrap ((↑a0.fBounds.length : Int) - 1)).toNat]! ≤ 67108864)) else none with | none => none | some r2 => some (r2) else match bif decide (a0.fCost < 0) then some (true) else bif decide (10000 < a0.fCost) then some (true) else bif decide (a0.fDo = 4) then bif decide (a0.fN < 0) then some (true) else some (decide (4096 < a0.fN)) else some (false) with | none => none | some r3 => bif r3 then some (false) else match bif bif decide (a0.fDo = 6) then false else true then some (true) else if (0 : Int) ≤ i64.wrap ((↑a0.fBounds.length : Int) - (1 : Int)) ∧ i64.wrap ((↑a0.fBounds.length : Int) - (1 : Int)) < (↑a0.fBounds.length : Int) then some (decide (a0.fBounds[(i64.wrap ((↑a0.fBounds.length : Int) - 1)).toNat]! ≤ 67108864)) else none with | none => none | some r4 => some (r4)
theorem c269 (a0 : GStep) : callR Tryz.prog (F269) 300 (an269) 269 (A269.c (a0, ())) [] 0 d269.rd = m269 a0 := by kernel_rfl
def e269 : Orc → Orc := eL Tryz.prog 269 false A269 d269 (fun g => m269 g.1)
theorem e269_ok {F : Orc} (h : OrcG Tryz.prog F) : OrcG Tryz.prog (e269 F) := eL_ok (sc := scU) scU_ok (hl_of F269_ok fa269 (fun _ => by kernel_rfl) (fun _ => by kernel_rfl) fun g => c269 g.1) ⟨_, Tryz.func269, by kernel_rfl, by kernel_rfl⟩ (fun _ => by kernel_rfl) (fun _ => by kernel_rfl) h
theorem e269_pure {F : Orc} {f : Nat} (h : PureF F f) : PureF (e269 F) f := orL_pure h (fun _ => by kernel_rfl)
abbrev E212 : Type := Int
def d212 : Td 0 E212 := .c [] [6] (.r 0 0 (ec 6 (qi .i64) en) sn (fun z => z.1.1) (fun x => ((x, ()), (()))) fun _ => rfl)
def A212 := (lc (qg 26) (lc (ql 166) (lc qb ln)))
def x212 (M : Flat → (List GStep) → Bool → Option E212) : Orc → Orc := eL Tryz.prog 212 false A212 d212 (fun g => M g.1 g.2.1 g.2.2.1)
theorem x212_pure {M : Flat → (List GStep) → Bool → Option E212} {F : Orc} {f : Nat} (h : PureF F f) : PureF (x212 M F) f := orL_pure h (fun _ => by kernel_rfl)
def H212 (M : Flat → (List GStep) → Bool → Option E212) : Prop := HL Tryz.prog 212 A212 d212 (fun g => M g.1 g.2.1 g.2.2.1)
theorem x212_ok {M : Flat → (List GStep) → Bool → Option E212} (hM : H212 M) {F : Orc} (h : OrcG Tryz.prog F) : OrcG Tryz.prog (x212 M F) := eL_ok (sc := scU) scU_ok hM ⟨_, Tryz.func212, by kernel_rfl, by kernel_rfl⟩ (fun _ => by kernel_rfl) (fun _ => by kernel_rfl) h
def F212 (M212 : Flat → (List GStep) → Bool → Option E212) : Orc := (e269 (e268 (e267 (x212 M212 or0))))
theorem F212_ok {M212} (h212 : H212 M212) : OrcG Tryz.prog (F212 M212) := (e269_ok (e268_ok (e267_ok (x212_ok h212 or0_g))))
structure L212_1 where
 t1 : List GStep
 t2 : Bool
 t13 : List GStep
 t14 : Int
 t15 : Int
 t47 : List (List GStep)
 t48 : Int
 t49 : Int
 b0 : Flat
def d212_1 : Td 0 L212_1 := .c [] [1, 2, 3, 13, 14, 15, 47, 48, 49] (.r 0 2 (ec 1 (ql 166) (ec 2 qb (ec 3 (qp 0 0) (ec 13 (ql 166) (ec 14 (qi .i64) (ec 15 (qi .i64) (ec 47 (qo 1) (ec 48 (qi .i64) (ec 49 (qi .i64) en))))))))) (sb 0 26 (lg 26) (sr 1 24 sn)) (fun z => ⟨z.1.1, z.1.2.1, z.1.2.2.2.1, z.1.2.2.2.2.1, z.1.2.2.2.2.2.1, z.2.2.1, z.1.2.2.2.2.2.2.2.1, z.1.2.2.2.2.2.2.2.2.1, z.2.1⟩) (fun x => ((x.t1, x.t2, (), x.t13, x.t14, x.t15, (), x.t48, x.t49, ()), (x.b0, x.t47, ()))) fun _ => rfl)
def n212_1 (M212 : Flat → (List GStep) → Bool → Option E212) (p : L212_1) : Option (Option L212_1) :=
 bif decide (p.t49 < p.t48) then if (0 : Int) ≤ p.t49 ∧ p.t49 < (↑p.t47.length : Int) then if 24 = 24 ∧ p.t49.toNat < p.t47.length then match M212 p.b0 p.t47[p.t49.toNat]! false with | none => none | some r8 => bif bif decide (r8 = 0) then false else true then some (none) else some (some (L212_1.mk p.t1 p.t2 p.t13 p.t14 p.t15 p.t47 p.t48 (i64.wrap (p.t49 + 1)) p.b0)) else none else none else some (none)
theorem q212_1 (M212 : Flat → (List GStep) → Bool → Option E212) (p : L212_1) : execA Tryz.prog (F212 M212) Tryz.f212.ntmps 300 (loopAt Tryz.f212 1) .no (Option L212_1) (d212_1.pat p) (kOn d212_1.rd) = n212_1 M212 p := by kernel_rfl
def a212_1 (M212 : Flat → (List GStep) → Bool → Option E212) : L212_1 → Option L212_1 := advG (n212_1 M212)
structure L212_0 where
 t1 : List GStep
 t2 : Bool
 t13 : List GStep
 t14 : Int
 t15 : Int
 b0 : Flat
def d212_0 : Td 0 L212_0 := .c [] [1, 2, 3, 13, 14, 15] (.r 0 1 (ec 1 (ql 166) (ec 2 qb (ec 3 (qp 0 0) (ec 13 (ql 166) (ec 14 (qi .i64) (ec 15 (qi .i64) en)))))) (sb 0 26 (lg 26) sn) (fun z => ⟨z.1.1, z.1.2.1, z.1.2.2.2.1, z.1.2.2.2.2.1, z.1.2.2.2.2.2.1, z.2.1⟩) (fun x => ((x.t1, x.t2, (), x.t13, x.t14, x.t15, ()), (x.b0, ()))) fun _ => rfl)
def n212_0 (M212 : Flat → (List GStep) → Bool → Option E212) (p : L212_0) : Option (Option L212_0) :=
 bif decide (p.t15 < p.t14) then if (0 : Int) ≤ p.t15 ∧ p.t15 < (↑p.t13.length : Int) then match bif p.t2 then match m268 p.b0 (GStep.mk p.t13[p.t15.toNat]!.fDo p.t13[p.t15.toNat]!.fCost p.t13[p.t15.toNat]!.fVar p.t13[p.t15.toNat]!.fN (GTerm.mk p.t13[p.t15.toNat]!.fTerm.fOp p.t13[p.t15.toNat]!.fTerm.fN p.t13[p.t15.toNat]!.fTerm.fKids) p.t13[p.t15.toNat]!.fThen p.t13[p.t15.toNat]!.fElse p.t13[p.t15.toNat]!.fBounds) (decide (((p.t1, p.t2, (), p.t13, p.t14, p.t15, ()), p.b0, ()).fst.snd.snd.snd.snd.snd.fst = i64.wrap ((↑((p.t1, p.t2, (), p.t13, p.t14, p.t15, ()), p.b0, ()).fst.fst.length : Int) - 1))) with | none => none | some r1 => some (bif r1 then false else true) else match m268 p.b0 (GStep.mk p.t13[p.t15.toNat]!.fDo p.t13[p.t15.toNat]!.fCost p.t13[p.t15.toNat]!.fVar p.t13[p.t15.toNat]!.fN (GTerm.mk p.t13[p.t15.toNat]!.fTerm.fOp p.t13[p.t15.toNat]!.fTerm.fN p.t13[p.t15.toNat]!.fTerm.fKids) p.t13[p.t15.toNat]!.fThen p.t13[p.t15.toNat]!.fElse p.t13[p.t15.toNat]!.fBounds) false with | none => none | some r2 => some (bif r2 then false else true) with | none => none | some r3 => bif r3 then some (none) else match m269 (GStep.mk p.t13[p.t15.toNat]!.fDo p.t13[p.t15.toNat]!.fCost p.t13[p.t15.toNat]!.fVar p.t13[p.t15.toNat]!.fN (GTerm.mk p.t13[p.t15.toNat]!.fTerm.fOp p.t13[p.t15.toNat]!.fTerm.fN p.t13[p.t15.toNat]!.fTerm.fKids) p.t13[p.t15.toNat]!.fThen p.t13[p.t15.toNat]!.fElse p.t13[p.t15.toNat]!.fBounds) with | none => none | some r4 => bif bif r4 then false else true then some (none) else match m267 p.b0.fVars (GTerm.mk p.t13[p.t15.toNat]!.fTerm.fOp p.t13[p.t15.toNat]!.fTerm.fN p.t13[p.t15.toNat]!.fTerm.fKids) false with | none => none | some r5 => bif bif decide (r5 = 0) then false else true then some (none) else match a212_1 M212 (L212_1.mk p.t1 p.t2 p.t13 p.t14 p.t15 [p.t13[p.t15.toNat]!.fThen, p.t13[p.t15.toNat]!.fElse] (↑[p.t13[p.t15.toNat]!.fThen, p.t13[p.t15.toNat]!.fElse].length : Int) (0) p.b0) with | none => none | some r6 => bif decide (r6.t49 < r6.t48) then if (0 : Int) ≤ r6.t49 ∧ r6.t49 < (↑r6.t47.length : Int) then if 24 = 24 ∧ r6.t49.toNat < r6.t47.length then match M212 r6.b0 r6.t47[r6.t49.toNat]! false with | none => none | some r7 => bif bif decide (r7 = 0) then false else true then some (none) else none else none else none else some (some (L212_0.mk r6.t1 r6.t2 r6.t13 r6.t14 (i64.wrap (r6.t15 + 1)) r6.b0)) else none else some (none)
def g212_0 (M212 : Flat → (List GStep) → Bool → Option E212) : An := (.two .no (.two .no (.two (.two .no (.two (.two (.rb [268] 31) .no) (.two .no (.two .no (.two .no (d212_1.lp (a212_1 M212) .no)))))) .no)))
theorem q212_0 (M212 : Flat → (List GStep) → Bool → Option E212) (p : L212_0) : execA Tryz.prog (F212 M212) Tryz.f212.ntmps 300 (loopAt Tryz.f212 0) (g212_0 M212) (Option L212_0) (d212_0.pat p) (kOn d212_0.rd) = n212_0 M212 p := by kernel_rfl
def a212_0 (M212 : Flat → (List GStep) → Bool → Option E212) : L212_0 → Option L212_0 := advG (n212_0 M212)
def an212 (M212 : Flat → (List GStep) → Bool → Option E212) : An := (.two .no (.two (.two .no (d212_0.lp (a212_0 M212) (g212_0 M212))) .no))
theorem pu212 {M212} : ∀ f ∈ ([268] : List Nat), PureF (F212 M212) f := (ob_cons (e269_pure (e268_pure (e267_pure (x212_pure or0_pure)))) ob_nil)
theorem fa212 (M212 : Flat → (List GStep) → Bool → Option E212) : FnAn Tryz.prog (F212 M212) 0 300 212 (an212 M212) := fnAn_of (l := [(loopAt Tryz.f212 0, (d212_0.lp (a212_0 M212) (g212_0 M212))), (.skip, (.rb [268] 31)), (loopAt Tryz.f212 1, (d212_1.lp (a212_1 M212) .no))]) Tryz.func212 (bodyOf_eq (by kernel_rfl)) (by kernel_rfl) (ob_cons ⟨d212_0.ok _, advG_ok (q212_0 M212)⟩ (ob_cons pu212 (ob_cons ⟨d212_1.ok _, advG_ok (q212_1 M212)⟩ ob_nil)))
def s212 (M212 : Flat → (List GStep) → Bool → Option E212) (a0 : Flat) (a1 : List GStep) (a2 : Bool) : Option E212 :=
 match a212_0 M212 (L212_0.mk a1 a2 a1 (↑a1.length : Int) (0) a0) with | none => none | some r9 => bif decide (r9.t15 < r9.t14) then if (0 : Int) ≤ r9.t15 ∧ r9.t15 < (↑r9.t13.length : Int) then match bif r9.t2 then match m268 r9.b0 (GStep.mk r9.t13[r9.t15.toNat]!.fDo r9.t13[r9.t15.toNat]!.fCost r9.t13[r9.t15.toNat]!.fVar r9.t13[r9.t15.toNat]!.fN (GTerm.mk r9.t13[r9.t15.toNat]!.fTerm.fOp r9.t13[r9.t15.toNat]!.fTerm.fN r9.t13[r9.t15.toNat]!.fTerm.fKids) r9.t13[r9.t15.toNat]!.fThen r9.t13[r9.t15.toNat]!.fElse r9.t13[r9.t15.toNat]!.fBounds) (decide (((r9.t1, r9.t2, (), r9.t13, r9.t14, r9.t15, ()), r9.b0, ()).fst.snd.snd.snd.snd.snd.fst = i64.wrap ((↑((r9.t1, r9.t2, (), r9.t13, r9.t14, r9.t15, ()), r9.b0, ()).fst.fst.length : Int) - 1))) with | none => none | some r10 => some (bif r10 then false else true) else match m268 r9.b0 (GStep.mk r9.t13[r9.t15.toNat]!.fDo r9.t13[r9.t15.toNat]!.fCost r9.t13[r9.t15.toNat]!.fVar r9.t13[r9.t15.toNat]!.fN (GTerm.mk r9.t13[r9.t15.toNat]!.fTerm.fOp r9.t13[r9.t15.toNat]!.fTerm.fN r9.t13[r9.t15.toNat]!.fTerm.fKids) r9.t13[r9.t15.toNat]!.fThen r9.t13[r9.t15.toNat]!.fElse r9.t13[r9.t15.toNat]!.fBounds) false with | none => none | some r11 => some (bif r11 then false else true) with | none => none | some r12 => bif r12 then some (1) else match m269 (GStep.mk r9.t13[r9.t15.toNat]!.fDo r9.t13[r9.t15.toNat]!.fCost r9.t13[r9.t15.toNat]!.fVar r9.t13[r9.t15.toNat]!.fN (GTerm.mk r9.t13[r9.t15.toNat]!.fTerm.fOp r9.t13[r9.t15.toNat]!.fTerm.fN r9.t13[r9.t15.toNat]!.fTerm.fKids) r9.t13[r9.t15.toNat]!.fThen r9.t13[r9.t15.toNat]!.fElse r9.t13[r9.t15.toNat]!.fBounds) with | none => none | some r13 => bif bif r13 then false else true then some (3) else match m267 r9.b0.fVars (GTerm.mk r9.t13[r9.t15.toNat]!.fTerm.fOp r9.t13[r9.t15.toNat]!.fTerm.fN r9.t13[r9.t15.toNat]!.fTerm.fKids) false with | none => none | some r14 => bif bif decide (r14 = 0) then false else true then some (r14) else match a212_1 M212 (L212_1.mk r9.t1 r9.t2 r9.t13 r9.t14 r9.t15 [r9.t13[r9.t15.toNat]!.fThen, r9.t13[r9.t15.toNat]!.fElse] (↑[r9.t13[r9.t15.toNat]!.fThen, r9.t13[r9.t15.toNat]!.fElse].length : Int) (0) r9.b0) with | none => none | some r15 => bif decide (r15.t49 < r15.t48) then if (0 : Int) ≤ r15.t49 ∧ r15.t49 < (↑r15.t47.length : Int) then if 24 = 24 ∧ r15.t49.toNat < r15.t47.length then match M212 r15.b0 r15.t47[r15.t49.toNat]! false with | none => none | some r16 => bif bif decide (r16 = 0) then false else true then some (r16) else none else none else none else none else none else some (0)
theorem c212 (M212 : Flat → (List GStep) → Bool → Option E212) (a0 : Flat) (a1 : List GStep) (a2 : Bool) : callR Tryz.prog (F212 M212) 300 (an212 M212) 212 (A212.c (a0, a1, a2, ())) [] 0 d212.rd = s212 M212 a0 a1 a2 := by kernel_rfl
def mm212 : Nat → (Flat → (List GStep) → Bool → Option E212)
 | 0 => (fun _ _ _ => none)
 | n + 1 => (s212 (mm212 n))
def m212 (n : Nat) : Flat → (List GStep) → Bool → Option E212 := (mm212 n)
theorem mm212_ok : ∀ n, H212 (m212 n)
 | 0 => fun _ _ h => (by cases h)
 | n + 1 => by
  have ih := mm212_ok n
  have i212 := ih
  exact (hl_of (F212_ok i212) (fa212 (m212 n)) (fun _ => by kernel_rfl) (fun _ => by kernel_rfl) fun g => c212 (m212 n) g.1 g.2.1 g.2.2.1)
def r212 : Flat → (List GStep) → Bool → Option E212 := fun a0 a1 a2 => lim (fun n => m212 n a0 a1 a2)
theorem r212_ok : H212 r212 := fun g b h => by
 obtain ⟨n, hn⟩ := lim_some (show lim (fun n => m212 n g.1 g.2.1 g.2.2.1) = some b from h)
 exact (mm212_ok n) g b hn
def e212 (F : Orc) : Orc := x212 r212 F
theorem e212_ok {F : Orc} (h : OrcG Tryz.prog F) : OrcG Tryz.prog (e212 F) := x212_ok r212_ok h
abbrev E213 : Type := Most
def d213 : Td 0 E213 := .c [] [2] (.r 0 1 (ec 2 (qp 0 0) en) (sb 0 260 (lg 260) sn) (fun z => z.2.1) (fun x => (((), ()), (x, ()))) fun _ => rfl)
def A213 := (lc (ql 166) ln)
def x213 (M : (List GStep) → Option E213) : Orc → Orc := eL Tryz.prog 213 false A213 d213 (fun g => M g.1)
def H213 (M : (List GStep) → Option E213) : Prop := HL Tryz.prog 213 A213 d213 (fun g => M g.1)
theorem x213_ok {M : (List GStep) → Option E213} (hM : H213 M) {F : Orc} (h : OrcG Tryz.prog F) : OrcG Tryz.prog (x213 M F) := eL_ok (sc := scU) scU_ok hM ⟨_, Tryz.func213, by kernel_rfl, by kernel_rfl⟩ (fun _ => by kernel_rfl) (fun _ => by kernel_rfl) h
def F213 (M213 : (List GStep) → Option E213) : Orc := (x213 M213 or0)
theorem F213_ok {M213} (h213 : H213 M213) : OrcG Tryz.prog (F213 M213) := (x213_ok h213 or0_g)
structure L213_0 where
 t9 : List GStep
 t10 : Int
 t11 : Int
 b0 : Most
 b1 : Most
def d213_0 : Td 0 L213_0 := .c [] [2, 3, 9, 10, 11] (.r 0 2 (ec 2 (qp 0 0) (ec 3 (qp 1 0) (ec 9 (ql 166) (ec 10 (qi .i64) (ec 11 (qi .i64) en))))) (sb 0 260 (lg 260) (sb 1 260 (lg 260) sn)) (fun z => ⟨z.1.2.2.1, z.1.2.2.2.1, z.1.2.2.2.2.1, z.2.1, z.2.2.1⟩) (fun x => (((), (), x.t9, x.t10, x.t11, ()), (x.b0, x.b1, ()))) fun _ => rfl)
def n213_0 (M213 : (List GStep) → Option E213) (p : L213_0) : Option (Option L213_0) :=
 bif decide (p.t11 < p.t10) then if (0 : Int) ≤ p.t11 ∧ p.t11 < (↑p.t9.length : Int) then match M213 p.t9[p.t11.toNat]!.fThen with | none => none | some r1 => match M213 p.t9[p.t11.toNat]!.fElse with | none => none | some r2 => bif decide (p.t9[p.t11.toNat]!.fDo = 1) then some (some (L213_0.mk p.t9 p.t10 (i64.wrap (p.t11 + 1)) p.b0 (Most.mk (if 1099511627776 < i64.wrap (p.b1.fSteps + 1) then 1099511627776 else i64.wrap (p.b1.fSteps + 1)) (if 1099511627776 < i64.wrap (p.b1.fOutputs + 1) then 1099511627776 else i64.wrap (p.b1.fOutputs + 1)) (if 1099511627776 < i64.wrap (p.b1.fTime + p.t9[p.t11.toNat]!.fCost) then 1099511627776 else i64.wrap (p.b1.fTime + p.t9[p.t11.toNat]!.fCost))))) else bif decide (p.t9[p.t11.toNat]!.fDo = 3) then some (some (L213_0.mk p.t9 p.t10 (i64.wrap (p.t11 + 1)) p.b0 (Most.mk (if 1099511627776 < i64.wrap (p.b1.fSteps + i64.wrap (1 + if r1.fSteps < r2.fSteps then r2.fSteps else r1.fSteps)) then 1099511627776 else i64.wrap (p.b1.fSteps + i64.wrap (1 + if r1.fSteps < r2.fSteps then r2.fSteps else r1.fSteps))) (if 1099511627776 < i64.wrap (p.b1.fOutputs + if r1.fOutputs < r2.fOutputs then r2.fOutputs else r1.fOutputs) then 1099511627776 else i64.wrap (p.b1.fOutputs + if r1.fOutputs < r2.fOutputs then r2.fOutputs else r1.fOutputs)) (if 1099511627776 < i64.wrap (p.b1.fTime + i64.wrap (p.t9[p.t11.toNat]!.fCost + if r1.fTime < r2.fTime then r2.fTime else r1.fTime)) then 1099511627776 else i64.wrap (p.b1.fTime + i64.wrap (p.t9[p.t11.toNat]!.fCost + if r1.fTime < r2.fTime then r2.fTime else r1.fTime)))))) else bif decide (p.t9[p.t11.toNat]!.fDo = 4) then some (some (L213_0.mk p.t9 p.t10 (i64.wrap (p.t11 + 1)) p.b0 (Most.mk (if 1099511627776 < i64.wrap (p.b1.fSteps + i64.wrap (1 + i64.wrap (p.t9[p.t11.toNat]!.fN * i64.wrap (1 + r1.fSteps)))) then 1099511627776 else i64.wrap (p.b1.fSteps + i64.wrap (1 + i64.wrap (p.t9[p.t11.toNat]!.fN * i64.wrap (1 + r1.fSteps))))) (if 1099511627776 < i64.wrap (p.b1.fOutputs + i64.wrap (p.t9[p.t11.toNat]!.fN * r1.fOutputs)) then 1099511627776 else i64.wrap (p.b1.fOutputs + i64.wrap (p.t9[p.t11.toNat]!.fN * r1.fOutputs))) (if 1099511627776 < i64.wrap (p.b1.fTime + i64.wrap (p.t9[p.t11.toNat]!.fN * i64.wrap (p.t9[p.t11.toNat]!.fCost + r1.fTime))) then 1099511627776 else i64.wrap (p.b1.fTime + i64.wrap (p.t9[p.t11.toNat]!.fN * i64.wrap (p.t9[p.t11.toNat]!.fCost + r1.fTime))))))) else some (some (L213_0.mk p.t9 p.t10 (i64.wrap (p.t11 + 1)) p.b0 (Most.mk (if 1099511627776 < i64.wrap (p.b1.fSteps + 1) then 1099511627776 else i64.wrap (p.b1.fSteps + 1)) (if 1099511627776 < i64.wrap (p.b1.fOutputs + 0) then 1099511627776 else i64.wrap (p.b1.fOutputs + 0)) (if 1099511627776 < i64.wrap (p.b1.fTime + p.t9[p.t11.toNat]!.fCost) then 1099511627776 else i64.wrap (p.b1.fTime + p.t9[p.t11.toNat]!.fCost))))) else none else some (none)
theorem q213_0 (M213 : (List GStep) → Option E213) (p : L213_0) : execA Tryz.prog (F213 M213) Tryz.f213.ntmps 300 (loopAt Tryz.f213 0) .no (Option L213_0) (d213_0.pat p) (kOn d213_0.rd) = n213_0 M213 p := by kernel_rfl
def a213_0 (M213 : (List GStep) → Option E213) : L213_0 → Option L213_0 := advG (n213_0 M213)
def an213 (M213 : (List GStep) → Option E213) : An := (.two .no (.two .no (.two (.two .no (d213_0.lp (a213_0 M213) .no)) .no)))
theorem fa213 (M213 : (List GStep) → Option E213) : FnAn Tryz.prog (F213 M213) 0 300 213 (an213 M213) := fnAn_of (l := [(loopAt Tryz.f213 0, (d213_0.lp (a213_0 M213) .no))]) Tryz.func213 (bodyOf_eq (by kernel_rfl)) (by kernel_rfl) (ob_cons ⟨d213_0.ok _, advG_ok (q213_0 M213)⟩ ob_nil)
def s213 (M213 : (List GStep) → Option E213) (a0 : List GStep) : Option E213 :=
 match a213_0 M213 (L213_0.mk a0 (↑a0.length : Int) (0) (Most.mk (0) (0) (0)) (Most.mk (0) (0) (0))) with | none => none | some r3 => bif decide (r3.t11 < r3.t10) then if (0 : Int) ≤ r3.t11 ∧ r3.t11 < (↑r3.t9.length : Int) then match M213 r3.t9[r3.t11.toNat]!.fThen with | none => none | some r4 => match M213 r3.t9[r3.t11.toNat]!.fElse with | none => none | some r5 => bif decide (r3.t9[r3.t11.toNat]!.fDo = 1) then none else bif decide (r3.t9[r3.t11.toNat]!.fDo = 3) then none else bif decide (r3.t9[r3.t11.toNat]!.fDo = 4) then none else none else none else some (r3.b1)
theorem c213 (M213 : (List GStep) → Option E213) (a0 : List GStep) : callR Tryz.prog (F213 M213) 300 (an213 M213) 213 (A213.c (a0, ())) [] 0 d213.rd = s213 M213 a0 := by kernel_rfl
def mm213 : Nat → ((List GStep) → Option E213)
 | 0 => (fun _ => none)
 | n + 1 => (s213 (mm213 n))
def m213 (n : Nat) : (List GStep) → Option E213 := (mm213 n)
theorem mm213_ok : ∀ n, H213 (m213 n)
 | 0 => fun _ _ h => (by cases h)
 | n + 1 => by
  have ih := mm213_ok n
  have i213 := ih
  exact (hl_of (F213_ok i213) (fa213 (m213 n)) (fun _ => by kernel_rfl) (fun _ => by kernel_rfl) fun g => c213 (m213 n) g.1)
def r213 : (List GStep) → Option E213 := fun a0 => lim (fun n => m213 n a0)
theorem r213_ok : H213 r213 := fun g b h => by
 obtain ⟨n, hn⟩ := lim_some (show lim (fun n => m213 n g.1) = some b from h)
 exact (mm213_ok n) g b hn
def e213 (F : Orc) : Orc := x213 r213 F
theorem e213_ok {F : Orc} (h : OrcG Tryz.prog F) : OrcG Tryz.prog (e213 F) := x213_ok r213_ok h
def F136 : Orc := (e213 (e212 (e211 (e210 (e209 (e208 (e207 or0)))))))
theorem F136_ok : OrcG Tryz.prog F136 := (e213_ok (e212_ok (e211_ok (e210_ok (e209_ok (e208_ok (e207_ok or0_g)))))))
structure L136_0 where
 t14 : List Hatch
 t15 : Int
 t16 : Int
 b0 : Flat
 b1 : Measure
def d136_0 : Td 0 L136_0 := .c [] [1, 3, 14, 15, 16] (.r 0 2 (ec 1 (qp 0 0) (ec 3 (qp 1 0) (ec 14 (ql 139) (ec 15 (qi .i64) (ec 16 (qi .i64) en))))) (sb 0 26 (lg 26) (sb 1 256 (lg 256) sn)) (fun z => ⟨z.1.2.2.1, z.1.2.2.2.1, z.1.2.2.2.2.1, z.2.1, z.2.2.1⟩) (fun x => (((), (), x.t14, x.t15, x.t16, ()), (x.b0, x.b1, ()))) fun _ => rfl)
def n136_0 (p : L136_0) : Option (Option L136_0) :=
 bif decide (p.t16 < p.t15) then if (0 : Int) ≤ p.t16 ∧ p.t16 < (↑p.t14.length : Int) then bif bif (m208 p.b1).fst then false else true then match r209 (GTerm.mk p.t14[p.t16.toNat]!.fTerm.fOp p.t14[p.t16.toNat]!.fTerm.fN p.t14[p.t16.toNat]!.fTerm.fKids) (1) (m208 p.b1).snd with | none => none | some r1 => some (some (L136_0.mk p.t14 p.t15 (i64.wrap (p.t16 + 1)) p.b0 r1)) else some (some (L136_0.mk p.t14 p.t15 (i64.wrap (p.t16 + 1)) p.b0 (m208 p.b1).snd)) else none else some (none)
theorem q136_0 (p : L136_0) : execA Tryz.prog (F136) Tryz.f136.ntmps 300 (loopAt Tryz.f136 0) .no (Option L136_0) (d136_0.pat p) (kOn d136_0.rd) = n136_0 p := by kernel_rfl
def a136_0 : L136_0 → Option L136_0 := advG (n136_0)
abbrev E136 : Type := Int
def d136 : Td 0 E136 := .c [] [2] (.r 0 0 (ec 2 (qi .i64) en) sn (fun z => z.1.1) (fun x => ((x, ()), (()))) fun _ => rfl)
def A136 := (lc (qg 26) ln)
def an136 : An := (.two .no (.two .no (.two .no (.two (.two .no (d136_0.lp a136_0 .no)) (.two .no (.two .no (.two .no (.two .no (.two (.two .no (.two (.rb [] 72) .no)) .no)))))))))
theorem pu136  : ∀ f ∈ ([] : List Nat), PureF (F136) f := ob_nil
theorem fa136 : FnAn Tryz.prog (F136) 0 300 136 (an136) := fnAn_of (l := [(loopAt Tryz.f136 0, (d136_0.lp a136_0 .no)), (.skip, (.rb [] 72))]) Tryz.func136 (bodyOf_eq (by kernel_rfl)) (by kernel_rfl) (ob_cons ⟨d136_0.ok _, advG_ok (q136_0)⟩ (ob_cons pu136 ob_nil))
def m136 (a0 : Flat) : Option E136 :=
 match r207 a0.fBody (1) (Measure.mk (0) false) with | none => none | some r2 => match a136_0 (L136_0.mk a0.fHatches (↑a0.fHatches.length : Int) (0) a0 r2) with | none => none | some r3 => bif decide (r3.t16 < r3.t15) then if (0 : Int) ≤ r3.t16 ∧ r3.t16 < (↑r3.t14.length : Int) then bif bif (m208 r3.b1).fst then false else true then match r209 (GTerm.mk r3.t14[r3.t16.toNat]!.fTerm.fOp r3.t14[r3.t16.toNat]!.fTerm.fN r3.t14[r3.t16.toNat]!.fTerm.fKids) (1) (m208 r3.b1).snd with | none => none | some r4 => none else none else none else bif decide (64 < (↑r3.b0.fVars.length : Int)) then some (4) else bif decide (8 < (↑r3.b0.fHatches.length : Int)) then some (4) else bif (m208 r3.b1).fst then some (4) else match m210 r3.b0.fVars with | none => none | some r5 => bif bif decide (r5 = 0) then false else true then some (r5) else match m211 r3.b0 with | none => none | some r6 => bif bif decide (r6 = 0) then false else true then some (r6) else match r212 r3.b0 r3.b0.fBody true with | none => none | some r7 => bif bif decide (r7 = 0) then false else true then some (r7) else match r213 r3.b0.fBody with | none => none | some r8 => match bif decide (4096 < r8.fSteps) then some (true) else bif decide (8 < r8.fOutputs) then some (true) else some (decide (67108864 < r8.fTime)) with | none => none | some r9 => bif r9 then some (4) else some (0)
theorem c136 (a0 : Flat) : callR Tryz.prog (F136) 300 (an136) 136 (A136.c (a0, ())) [] 0 d136.rd = m136 a0 := by kernel_rfl
def e136 : Orc → Orc := eL Tryz.prog 136 false A136 d136 (fun g => m136 g.1)
theorem e136_ok {F : Orc} (h : OrcG Tryz.prog F) : OrcG Tryz.prog (e136 F) := eL_ok (sc := scU) scU_ok (hl_of F136_ok fa136 (fun _ => by kernel_rfl) (fun _ => by kernel_rfl) fun g => c136 g.1) ⟨_, Tryz.func136, by kernel_rfl, by kernel_rfl⟩ (fun _ => by kernel_rfl) (fun _ => by kernel_rfl) h
theorem e136_pure {F : Orc} {f : Nat} (h : PureF F f) : PureF (e136 F) f := orL_pure h (fun _ => by kernel_rfl)
def F174 : Orc := or0
theorem F174_ok : OrcG Tryz.prog F174 := or0_g
abbrev E174 : Type := Int
def d174 : Td 0 E174 := .c [] [4] (.r 0 0 (ec 4 (qi .i64) en) sn (fun z => z.1.1) (fun x => ((x, ()), (()))) fun _ => rfl)
def A174 := (lc (qi .i64) (lc (qi .i64) ln))
def an174 : An := .no
theorem fa174 : FnAn Tryz.prog (F174) 0 300 174 (an174) := fnAn_of (l := []) Tryz.func174 (bodyOf_eq (by kernel_rfl)) (by kernel_rfl) ob_nil
def m174 (a0 : Int) (a1 : Int) : E174 :=
 bif decide (a1 < a0) then a0 else a1
theorem c174 (a0 : Int) (a1 : Int) : callR Tryz.prog (F174) 300 (an174) 174 (A174.c (a0, a1, ())) [] 0 d174.rd = some (m174 a0 a1) := by
 refine Eq.trans (b := (
  bif decide (a1 < a0) then some (a0) else some (a1) : Option E174)) (by kernel_rfl) ?_
 simp only [m174, cond_some, ite_some]
def e174 : Orc → Orc := eL Tryz.prog 174 false A174 d174 (fun g => some (m174 g.1 g.2.1))
theorem e174_ok {F : Orc} (h : OrcG Tryz.prog F) : OrcG Tryz.prog (e174 F) := eL_ok (sc := scU) scU_ok (hl_of F174_ok fa174 (fun _ => by kernel_rfl) (fun _ => by kernel_rfl) fun g => c174 g.1 g.2.1) ⟨_, Tryz.func174, by kernel_rfl, by kernel_rfl⟩ (fun _ => by kernel_rfl) (fun _ => by kernel_rfl) h
def F175 : Orc := or0
theorem F175_ok : OrcG Tryz.prog F175 := or0_g
abbrev E175 : Type := Int
def d175 : Td 0 E175 := .c [] [4] (.r 0 0 (ec 4 (qi .i64) en) sn (fun z => z.1.1) (fun x => ((x, ()), (()))) fun _ => rfl)
def A175 := (lc (qi .i64) (lc (qi .i64) ln))
def an175 : An := .no
theorem fa175 : FnAn Tryz.prog (F175) 0 300 175 (an175) := fnAn_of (l := []) Tryz.func175 (bodyOf_eq (by kernel_rfl)) (by kernel_rfl) ob_nil
def m175 (a0 : Int) (a1 : Int) : E175 :=
 bif decide (a0 < a1) then a0 else a1
theorem c175 (a0 : Int) (a1 : Int) : callR Tryz.prog (F175) 300 (an175) 175 (A175.c (a0, a1, ())) [] 0 d175.rd = some (m175 a0 a1) := by
 refine Eq.trans (b := (
  bif decide (a0 < a1) then some (a0) else some (a1) : Option E175)) (by kernel_rfl) ?_
 simp only [m175, cond_some, ite_some]
def e175 : Orc → Orc := eL Tryz.prog 175 false A175 d175 (fun g => some (m175 g.1 g.2.1))
theorem e175_ok {F : Orc} (h : OrcG Tryz.prog F) : OrcG Tryz.prog (e175 F) := eL_ok (sc := scU) scU_ok (hl_of F175_ok fa175 (fun _ => by kernel_rfl) (fun _ => by kernel_rfl) fun g => c175 g.1 g.2.1) ⟨_, Tryz.func175, by kernel_rfl, by kernel_rfl⟩ (fun _ => by kernel_rfl) (fun _ => by kernel_rfl) h
abbrev E90 : Type := Int × Int × Int
def d90 : Td 0 E90 := .c [] [2, 3, 4] (.r 0 0 (ec 2 (qi .i64) (ec 3 (qi .i64) (ec 4 (qi .i64) en))) sn (fun z => (z.1.1, z.1.2.1, z.1.2.2.1)) (fun x => ((x.1, x.2.1, x.2.2, ()), (()))) fun _ => rfl)
def A90 := (lc (ql 166) ln)
def x90 (M : (List GStep) → Option E90) : Orc → Orc := eL Tryz.prog 90 false A90 d90 (fun g => M g.1)
theorem x90_pure {M : (List GStep) → Option E90} {F : Orc} {f : Nat} (h : PureF F f) : PureF (x90 M F) f := orL_pure h (fun _ => by kernel_rfl)
def H90 (M : (List GStep) → Option E90) : Prop := HL Tryz.prog 90 A90 d90 (fun g => M g.1)
theorem x90_ok {M : (List GStep) → Option E90} (hM : H90 M) {F : Orc} (h : OrcG Tryz.prog F) : OrcG Tryz.prog (x90 M F) := eL_ok (sc := scU) scU_ok hM ⟨_, Tryz.func90, by kernel_rfl, by kernel_rfl⟩ (fun _ => by kernel_rfl) (fun _ => by kernel_rfl) h
def F90 (M90 : (List GStep) → Option E90) : Orc := (e175 (e174 (x90 M90 or0)))
theorem F90_ok {M90} (h90 : H90 M90) : OrcG Tryz.prog (F90 M90) := (e175_ok (e174_ok (x90_ok h90 or0_g)))
structure L90_0 where
 t0 : List GStep
 t5 : Int
 t6 : Int
 t7 : Int
 t8 : Int
def d90_0 : Td 0 L90_0 := .c [] [0, 5, 6, 7, 8] (.r 0 0 (ec 0 (ql 166) (ec 5 (qi .i64) (ec 6 (qi .i64) (ec 7 (qi .i64) (ec 8 (qi .i64) en))))) sn (fun z => ⟨z.1.1, z.1.2.1, z.1.2.2.1, z.1.2.2.2.1, z.1.2.2.2.2.1⟩) (fun x => ((x.t0, x.t5, x.t6, x.t7, x.t8, ()), (()))) fun _ => rfl)
def n90_0 (M90 : (List GStep) → Option E90) (p : L90_0) : Option (Option L90_0) :=
 bif decide (p.t8 < (↑p.t0.length : Int)) then if (0 : Int) ≤ p.t8 ∧ p.t8 < (↑p.t0.length : Int) then match M90 p.t0[p.t8.toNat]!.fThen with | none => none | some r1 => match M90 p.t0[p.t8.toNat]!.fElse with | none => none | some r2 => bif decide (p.t0[p.t8.toNat]!.fDo = 4) then bif decide (p.t0[p.t8.toNat]!.fDo = 1) then some (some (L90_0.mk p.t0 (m175 (i64.wrap (p.t5 + i64.wrap (1 + i64.wrap (p.t0[p.t8.toNat]!.fN * i64.wrap (1 + r1.fst))))) (4097)) (m175 (i64.wrap (p.t6 + 1)) (9)) (m175 (i64.wrap (p.t7 + i64.wrap (p.t0[p.t8.toNat]!.fN * i64.wrap (p.t0[p.t8.toNat]!.fCost + r1.snd.snd)))) (67108865)) (i64.wrap (p.t8 + 1)))) else some (some (L90_0.mk p.t0 (m175 (i64.wrap (p.t5 + i64.wrap (1 + i64.wrap (p.t0[p.t8.toNat]!.fN * i64.wrap (1 + r1.fst))))) (4097)) (m175 (i64.wrap (p.t6 + i64.wrap (p.t0[p.t8.toNat]!.fN * r1.snd.fst))) (9)) (m175 (i64.wrap (p.t7 + i64.wrap (p.t0[p.t8.toNat]!.fN * i64.wrap (p.t0[p.t8.toNat]!.fCost + r1.snd.snd)))) (67108865)) (i64.wrap (p.t8 + 1)))) else bif decide (p.t0[p.t8.toNat]!.fDo = 1) then some (some (L90_0.mk p.t0 (m175 (i64.wrap (p.t5 + i64.wrap (1 + m174 r1.fst r2.fst))) (4097)) (m175 (i64.wrap (p.t6 + 1)) (9)) (m175 (i64.wrap (p.t7 + i64.wrap (p.t0[p.t8.toNat]!.fCost + m174 r1.snd.snd r2.snd.snd))) (67108865)) (i64.wrap (p.t8 + 1)))) else some (some (L90_0.mk p.t0 (m175 (i64.wrap (p.t5 + i64.wrap (1 + m174 r1.fst r2.fst))) (4097)) (m175 (i64.wrap (p.t6 + m174 r1.snd.fst r2.snd.fst)) (9)) (m175 (i64.wrap (p.t7 + i64.wrap (p.t0[p.t8.toNat]!.fCost + m174 r1.snd.snd r2.snd.snd))) (67108865)) (i64.wrap (p.t8 + 1)))) else none else some (none)
theorem q90_0 (M90 : (List GStep) → Option E90) (p : L90_0) : execA Tryz.prog (F90 M90) Tryz.f90.ntmps 300 (loopAt Tryz.f90 0) .no (Option L90_0) (d90_0.pat p) (kOn d90_0.rd) = n90_0 M90 p := by kernel_rfl
def a90_0 (M90 : (List GStep) → Option E90) : L90_0 → Option L90_0 := advG (n90_0 M90)
def an90 (M90 : (List GStep) → Option E90) : An := (.two .no (.two .no (.two (.two .no (d90_0.lp (a90_0 M90) .no)) .no)))
theorem fa90 (M90 : (List GStep) → Option E90) : FnAn Tryz.prog (F90 M90) 0 300 90 (an90 M90) := fnAn_of (l := [(loopAt Tryz.f90 0, (d90_0.lp (a90_0 M90) .no))]) Tryz.func90 (bodyOf_eq (by kernel_rfl)) (by kernel_rfl) (ob_cons ⟨d90_0.ok _, advG_ok (q90_0 M90)⟩ ob_nil)
def s90 (M90 : (List GStep) → Option E90) (a0 : List GStep) : Option E90 :=
 match a90_0 M90 (L90_0.mk a0 (0) (0) (0) (0)) with | none => none | some r3 => bif decide (r3.t8 < (↑r3.t0.length : Int)) then if (0 : Int) ≤ r3.t8 ∧ r3.t8 < (↑r3.t0.length : Int) then match M90 r3.t0[r3.t8.toNat]!.fThen with | none => none | some r4 => match M90 r3.t0[r3.t8.toNat]!.fElse with | none => none | some r5 => bif decide (r3.t0[r3.t8.toNat]!.fDo = 4) then bif decide (r3.t0[r3.t8.toNat]!.fDo = 1) then none else none else bif decide (r3.t0[r3.t8.toNat]!.fDo = 1) then none else none else none else some ((r3.t5, r3.t6, r3.t7))
theorem c90 (M90 : (List GStep) → Option E90) (a0 : List GStep) : callR Tryz.prog (F90 M90) 300 (an90 M90) 90 (A90.c (a0, ())) [] 0 d90.rd = s90 M90 a0 := by kernel_rfl
def mm90 : Nat → ((List GStep) → Option E90)
 | 0 => (fun _ => none)
 | n + 1 => (s90 (mm90 n))
def m90 (n : Nat) : (List GStep) → Option E90 := (mm90 n)
theorem mm90_ok : ∀ n, H90 (m90 n)
 | 0 => fun _ _ h => (by cases h)
 | n + 1 => by
  have ih := mm90_ok n
  have i90 := ih
  exact (hl_of (F90_ok i90) (fa90 (m90 n)) (fun _ => by kernel_rfl) (fun _ => by kernel_rfl) fun g => c90 (m90 n) g.1)
def r90 : (List GStep) → Option E90 := fun a0 => lim (fun n => m90 n a0)
theorem r90_ok : H90 r90 := fun g b h => by
 obtain ⟨n, hn⟩ := lim_some (show lim (fun n => m90 n g.1) = some b from h)
 exact (mm90_ok n) g b hn
def e90 (F : Orc) : Orc := x90 r90 F
theorem e90_ok {F : Orc} (h : OrcG Tryz.prog F) : OrcG Tryz.prog (e90 F) := x90_ok r90_ok h
theorem e90_pure {F : Orc} {f : Nat} (h : PureF F f) : PureF (e90 F) f := x90_pure h
abbrev E216 : Type := Int
def d216 : Td 0 E216 := .c [] [2] (.r 0 0 (ec 2 (qi .i64) en) sn (fun z => z.1.1) (fun x => ((x, ()), (()))) fun _ => rfl)
def A216 := (lc (qg 137) ln)
def x216 (M : GTerm → Option E216) : Orc → Orc := eL Tryz.prog 216 false A216 d216 (fun g => M g.1)
theorem x216_pure {M : GTerm → Option E216} {F : Orc} {f : Nat} (h : PureF F f) : PureF (x216 M F) f := orL_pure h (fun _ => by kernel_rfl)
def H216 (M : GTerm → Option E216) : Prop := HL Tryz.prog 216 A216 d216 (fun g => M g.1)
theorem x216_ok {M : GTerm → Option E216} (hM : H216 M) {F : Orc} (h : OrcG Tryz.prog F) : OrcG Tryz.prog (x216 M F) := eL_ok (sc := scU) scU_ok hM ⟨_, Tryz.func216, by kernel_rfl, by kernel_rfl⟩ (fun _ => by kernel_rfl) (fun _ => by kernel_rfl) h
def F216 (M216 : GTerm → Option E216) : Orc := (x216 M216 or0)
theorem F216_ok {M216} (h216 : H216 M216) : OrcG Tryz.prog (F216 M216) := (x216_ok h216 or0_g)
structure L216_0 where
 t3 : Int
 t4 : Int
 b0 : GTerm
def d216_0 : Td 0 L216_0 := .c [] [1, 3, 4] (.r 0 1 (ec 1 (qp 0 0) (ec 3 (qi .i64) (ec 4 (qi .i64) en))) (sb 0 137 (lg 137) sn) (fun z => ⟨z.1.2.1, z.1.2.2.1, z.2.1⟩) (fun x => (((), x.t3, x.t4, ()), (x.b0, ()))) fun _ => rfl)
def n216_0 (M216 : GTerm → Option E216) (p : L216_0) : Option (Option L216_0) :=
 bif decide (p.t4 < (↑p.b0.fKids.length : Int)) then if (0 : Int) ≤ p.t4 ∧ p.t4 < (↑p.b0.fKids.length : Int) then match M216 (GTerm.mk p.b0.fKids[p.t4.toNat]!.fOp p.b0.fKids[p.t4.toNat]!.fN p.b0.fKids[p.t4.toNat]!.fKids) with | none => none | some r1 => some (some (L216_0.mk (i64.wrap (p.t3 + r1)) (i64.wrap (p.t4 + 1)) (GTerm.mk p.b0.fOp p.b0.fN p.b0.fKids))) else none else some (none)
theorem q216_0 (M216 : GTerm → Option E216) (p : L216_0) : execA Tryz.prog (F216 M216) Tryz.f216.ntmps 300 (loopAt Tryz.f216 0) .no (Option L216_0) (d216_0.pat p) (kOn d216_0.rd) = n216_0 M216 p := by kernel_rfl
def a216_0 (M216 : GTerm → Option E216) : L216_0 → Option L216_0 := advG (n216_0 M216)
def an216 (M216 : GTerm → Option E216) : An := (.two .no (.two .no (.two (.two .no (d216_0.lp (a216_0 M216) .no)) .no)))
theorem fa216 (M216 : GTerm → Option E216) : FnAn Tryz.prog (F216 M216) 0 300 216 (an216 M216) := fnAn_of (l := [(loopAt Tryz.f216 0, (d216_0.lp (a216_0 M216) .no))]) Tryz.func216 (bodyOf_eq (by kernel_rfl)) (by kernel_rfl) (ob_cons ⟨d216_0.ok _, advG_ok (q216_0 M216)⟩ ob_nil)
def s216 (M216 : GTerm → Option E216) (a0 : GTerm) : Option E216 :=
 match a216_0 M216 (L216_0.mk (1) (0) (GTerm.mk a0.fOp a0.fN a0.fKids)) with | none => none | some r2 => bif decide (r2.t4 < (↑r2.b0.fKids.length : Int)) then if (0 : Int) ≤ r2.t4 ∧ r2.t4 < (↑r2.b0.fKids.length : Int) then match M216 (GTerm.mk r2.b0.fKids[r2.t4.toNat]!.fOp r2.b0.fKids[r2.t4.toNat]!.fN r2.b0.fKids[r2.t4.toNat]!.fKids) with | none => none | some r3 => none else none else some (r2.t3)
theorem c216 (M216 : GTerm → Option E216) (a0 : GTerm) : callR Tryz.prog (F216 M216) 300 (an216 M216) 216 (A216.c (a0, ())) [] 0 d216.rd = s216 M216 a0 := by kernel_rfl
def mm216 : Nat → (GTerm → Option E216)
 | 0 => (fun _ => none)
 | n + 1 => (s216 (mm216 n))
def m216 (n : Nat) : GTerm → Option E216 := (mm216 n)
theorem mm216_ok : ∀ n, H216 (m216 n)
 | 0 => fun _ _ h => (by cases h)
 | n + 1 => by
  have ih := mm216_ok n
  have i216 := ih
  exact (hl_of (F216_ok i216) (fa216 (m216 n)) (fun _ => by kernel_rfl) (fun _ => by kernel_rfl) fun g => c216 (m216 n) g.1)
def r216 : GTerm → Option E216 := fun a0 => lim (fun n => m216 n a0)
theorem r216_ok : H216 r216 := fun g b h => by
 obtain ⟨n, hn⟩ := lim_some (show lim (fun n => m216 n g.1) = some b from h)
 exact (mm216_ok n) g b hn
def e216 (F : Orc) : Orc := x216 r216 F
theorem e216_ok {F : Orc} (h : OrcG Tryz.prog F) : OrcG Tryz.prog (e216 F) := x216_ok r216_ok h
theorem e216_pure {F : Orc} {f : Nat} (h : PureF F f) : PureF (e216 F) f := x216_pure h
abbrev E215 : Type := Int
def d215 : Td 0 E215 := .c [] [2] (.r 0 0 (ec 2 (qi .i64) en) sn (fun z => z.1.1) (fun x => ((x, ()), (()))) fun _ => rfl)
def A215 := (lc (ql 166) ln)
def x215 (M : (List GStep) → Option E215) : Orc → Orc := eL Tryz.prog 215 false A215 d215 (fun g => M g.1)
theorem x215_pure {M : (List GStep) → Option E215} {F : Orc} {f : Nat} (h : PureF F f) : PureF (x215 M F) f := orL_pure h (fun _ => by kernel_rfl)
def H215 (M : (List GStep) → Option E215) : Prop := HL Tryz.prog 215 A215 d215 (fun g => M g.1)
theorem x215_ok {M : (List GStep) → Option E215} (hM : H215 M) {F : Orc} (h : OrcG Tryz.prog F) : OrcG Tryz.prog (x215 M F) := eL_ok (sc := scU) scU_ok hM ⟨_, Tryz.func215, by kernel_rfl, by kernel_rfl⟩ (fun _ => by kernel_rfl) (fun _ => by kernel_rfl) h
def F215 (M215 : (List GStep) → Option E215) : Orc := (e216 (x215 M215 or0))
theorem F215_ok {M215} (h215 : H215 M215) : OrcG Tryz.prog (F215 M215) := (e216_ok (x215_ok h215 or0_g))
structure L215_0 where
 t0 : List GStep
 t3 : Int
 t4 : Int
def d215_0 : Td 0 L215_0 := .c [] [0, 3, 4] (.r 0 0 (ec 0 (ql 166) (ec 3 (qi .i64) (ec 4 (qi .i64) en))) sn (fun z => ⟨z.1.1, z.1.2.1, z.1.2.2.1⟩) (fun x => ((x.t0, x.t3, x.t4, ()), (()))) fun _ => rfl)
def n215_0 (M215 : (List GStep) → Option E215) (p : L215_0) : Option (Option L215_0) :=
 bif decide (p.t4 < (↑p.t0.length : Int)) then if (0 : Int) ≤ p.t4 ∧ p.t4 < (↑p.t0.length : Int) then match r216 (GTerm.mk p.t0[p.t4.toNat]!.fTerm.fOp p.t0[p.t4.toNat]!.fTerm.fN p.t0[p.t4.toNat]!.fTerm.fKids) with | none => none | some r1 => if (0 : Int) ≤ p.t4 ∧ p.t4 < (↑p.t0.length : Int) then match M215 p.t0[p.t4.toNat]!.fThen with | none => none | some r2 => if (0 : Int) ≤ p.t4 ∧ p.t4 < (↑p.t0.length : Int) then match M215 p.t0[p.t4.toNat]!.fElse with | none => none | some r3 => some (some (L215_0.mk p.t0 (i64.wrap (i64.wrap (i64.wrap (i64.wrap (p.t3 + 1) + r1) + r2) + r3)) (i64.wrap (p.t4 + 1)))) else none else none else none else some (none)
theorem q215_0 (M215 : (List GStep) → Option E215) (p : L215_0) : execA Tryz.prog (F215 M215) Tryz.f215.ntmps 300 (loopAt Tryz.f215 0) .no (Option L215_0) (d215_0.pat p) (kOn d215_0.rd) = n215_0 M215 p := by kernel_rfl
def a215_0 (M215 : (List GStep) → Option E215) : L215_0 → Option L215_0 := advG (n215_0 M215)
def an215 (M215 : (List GStep) → Option E215) : An := (.two .no (.two .no (.two (.two .no (d215_0.lp (a215_0 M215) .no)) .no)))
theorem fa215 (M215 : (List GStep) → Option E215) : FnAn Tryz.prog (F215 M215) 0 300 215 (an215 M215) := fnAn_of (l := [(loopAt Tryz.f215 0, (d215_0.lp (a215_0 M215) .no))]) Tryz.func215 (bodyOf_eq (by kernel_rfl)) (by kernel_rfl) (ob_cons ⟨d215_0.ok _, advG_ok (q215_0 M215)⟩ ob_nil)
def s215 (M215 : (List GStep) → Option E215) (a0 : List GStep) : Option E215 :=
 match a215_0 M215 (L215_0.mk a0 (0) (0)) with | none => none | some r4 => bif decide (r4.t4 < (↑r4.t0.length : Int)) then if (0 : Int) ≤ r4.t4 ∧ r4.t4 < (↑r4.t0.length : Int) then match r216 (GTerm.mk r4.t0[r4.t4.toNat]!.fTerm.fOp r4.t0[r4.t4.toNat]!.fTerm.fN r4.t0[r4.t4.toNat]!.fTerm.fKids) with | none => none | some r5 => if (0 : Int) ≤ r4.t4 ∧ r4.t4 < (↑r4.t0.length : Int) then match M215 r4.t0[r4.t4.toNat]!.fThen with | none => none | some r6 => if (0 : Int) ≤ r4.t4 ∧ r4.t4 < (↑r4.t0.length : Int) then match M215 r4.t0[r4.t4.toNat]!.fElse with | none => none | some r7 => none else none else none else none else some (r4.t3)
theorem c215 (M215 : (List GStep) → Option E215) (a0 : List GStep) : callR Tryz.prog (F215 M215) 300 (an215 M215) 215 (A215.c (a0, ())) [] 0 d215.rd = s215 M215 a0 := by kernel_rfl
def mm215 : Nat → ((List GStep) → Option E215)
 | 0 => (fun _ => none)
 | n + 1 => (s215 (mm215 n))
def m215 (n : Nat) : (List GStep) → Option E215 := (mm215 n)
theorem mm215_ok : ∀ n, H215 (m215 n)
 | 0 => fun _ _ h => (by cases h)
 | n + 1 => by
  have ih := mm215_ok n
  have i215 := ih
  exact (hl_of (F215_ok i215) (fa215 (m215 n)) (fun _ => by kernel_rfl) (fun _ => by kernel_rfl) fun g => c215 (m215 n) g.1)
def r215 : (List GStep) → Option E215 := fun a0 => lim (fun n => m215 n a0)
theorem r215_ok : H215 r215 := fun g b h => by
 obtain ⟨n, hn⟩ := lim_some (show lim (fun n => m215 n g.1) = some b from h)
 exact (mm215_ok n) g b hn
def e215 (F : Orc) : Orc := x215 r215 F
theorem e215_ok {F : Orc} (h : OrcG Tryz.prog F) : OrcG Tryz.prog (e215 F) := x215_ok r215_ok h
theorem e215_pure {F : Orc} {f : Nat} (h : PureF F f) : PureF (e215 F) f := x215_pure h
abbrev E217 : Type := Int
def d217 : Td 0 E217 := .c [] [2] (.r 0 0 (ec 2 (qi .i64) en) sn (fun z => z.1.1) (fun x => ((x, ()), (()))) fun _ => rfl)
def A217 := (lc (qg 137) ln)
def x217 (M : GTerm → Option E217) : Orc → Orc := eL Tryz.prog 217 false A217 d217 (fun g => M g.1)
theorem x217_pure {M : GTerm → Option E217} {F : Orc} {f : Nat} (h : PureF F f) : PureF (x217 M F) f := orL_pure h (fun _ => by kernel_rfl)
def H217 (M : GTerm → Option E217) : Prop := HL Tryz.prog 217 A217 d217 (fun g => M g.1)
theorem x217_ok {M : GTerm → Option E217} (hM : H217 M) {F : Orc} (h : OrcG Tryz.prog F) : OrcG Tryz.prog (x217 M F) := eL_ok (sc := scU) scU_ok hM ⟨_, Tryz.func217, by kernel_rfl, by kernel_rfl⟩ (fun _ => by kernel_rfl) (fun _ => by kernel_rfl) h
def F217 (M217 : GTerm → Option E217) : Orc := (x217 M217 or0)
theorem F217_ok {M217} (h217 : H217 M217) : OrcG Tryz.prog (F217 M217) := (x217_ok h217 or0_g)
structure L217_0 where
 t3 : Int
 t4 : Int
 b0 : GTerm
def d217_0 : Td 0 L217_0 := .c [] [1, 3, 4] (.r 0 1 (ec 1 (qp 0 0) (ec 3 (qi .i64) (ec 4 (qi .i64) en))) (sb 0 137 (lg 137) sn) (fun z => ⟨z.1.2.1, z.1.2.2.1, z.2.1⟩) (fun x => (((), x.t3, x.t4, ()), (x.b0, ()))) fun _ => rfl)
def n217_0 (M217 : GTerm → Option E217) (p : L217_0) : Option (Option L217_0) :=
 bif decide (p.t4 < (↑p.b0.fKids.length : Int)) then if (0 : Int) ≤ p.t4 ∧ p.t4 < (↑p.b0.fKids.length : Int) then match M217 (GTerm.mk p.b0.fKids[p.t4.toNat]!.fOp p.b0.fKids[p.t4.toNat]!.fN p.b0.fKids[p.t4.toNat]!.fKids) with | none => none | some r1 => bif decide (p.t3 < r1) then some (some (L217_0.mk r1 (i64.wrap (p.t4 + 1)) (GTerm.mk p.b0.fOp p.b0.fN p.b0.fKids))) else some (some (L217_0.mk p.t3 (i64.wrap (p.t4 + 1)) (GTerm.mk p.b0.fOp p.b0.fN p.b0.fKids))) else none else some (none)
theorem q217_0 (M217 : GTerm → Option E217) (p : L217_0) : execA Tryz.prog (F217 M217) Tryz.f217.ntmps 300 (loopAt Tryz.f217 0) .no (Option L217_0) (d217_0.pat p) (kOn d217_0.rd) = n217_0 M217 p := by kernel_rfl
def a217_0 (M217 : GTerm → Option E217) : L217_0 → Option L217_0 := advG (n217_0 M217)
def an217 (M217 : GTerm → Option E217) : An := (.two .no (.two .no (.two (.two .no (d217_0.lp (a217_0 M217) .no)) .no)))
theorem fa217 (M217 : GTerm → Option E217) : FnAn Tryz.prog (F217 M217) 0 300 217 (an217 M217) := fnAn_of (l := [(loopAt Tryz.f217 0, (d217_0.lp (a217_0 M217) .no))]) Tryz.func217 (bodyOf_eq (by kernel_rfl)) (by kernel_rfl) (ob_cons ⟨d217_0.ok _, advG_ok (q217_0 M217)⟩ ob_nil)
def s217 (M217 : GTerm → Option E217) (a0 : GTerm) : Option E217 :=
 match a217_0 M217 (L217_0.mk (0) (0) (GTerm.mk a0.fOp a0.fN a0.fKids)) with | none => none | some r2 => bif decide (r2.t4 < (↑r2.b0.fKids.length : Int)) then if (0 : Int) ≤ r2.t4 ∧ r2.t4 < (↑r2.b0.fKids.length : Int) then match M217 (GTerm.mk r2.b0.fKids[r2.t4.toNat]!.fOp r2.b0.fKids[r2.t4.toNat]!.fN r2.b0.fKids[r2.t4.toNat]!.fKids) with | none => none | some r3 => bif decide (r2.t3 < r3) then none else none else none else some (i64.wrap (r2.t3 + 1))
theorem c217 (M217 : GTerm → Option E217) (a0 : GTerm) : callR Tryz.prog (F217 M217) 300 (an217 M217) 217 (A217.c (a0, ())) [] 0 d217.rd = s217 M217 a0 := by kernel_rfl
def mm217 : Nat → (GTerm → Option E217)
 | 0 => (fun _ => none)
 | n + 1 => (s217 (mm217 n))
def m217 (n : Nat) : GTerm → Option E217 := (mm217 n)
theorem mm217_ok : ∀ n, H217 (m217 n)
 | 0 => fun _ _ h => (by cases h)
 | n + 1 => by
  have ih := mm217_ok n
  have i217 := ih
  exact (hl_of (F217_ok i217) (fa217 (m217 n)) (fun _ => by kernel_rfl) (fun _ => by kernel_rfl) fun g => c217 (m217 n) g.1)
def r217 : GTerm → Option E217 := fun a0 => lim (fun n => m217 n a0)
theorem r217_ok : H217 r217 := fun g b h => by
 obtain ⟨n, hn⟩ := lim_some (show lim (fun n => m217 n g.1) = some b from h)
 exact (mm217_ok n) g b hn
def e217 (F : Orc) : Orc := x217 r217 F
theorem e217_ok {F : Orc} (h : OrcG Tryz.prog F) : OrcG Tryz.prog (e217 F) := x217_ok r217_ok h
theorem e217_pure {F : Orc} {f : Nat} (h : PureF F f) : PureF (e217 F) f := x217_pure h
abbrev E218 : Type := Int
def d218 : Td 0 E218 := .c [] [2] (.r 0 0 (ec 2 (qi .i64) en) sn (fun z => z.1.1) (fun x => ((x, ()), (()))) fun _ => rfl)
def A218 := (lc (ql 166) ln)
def x218 (M : (List GStep) → Option E218) : Orc → Orc := eL Tryz.prog 218 false A218 d218 (fun g => M g.1)
theorem x218_pure {M : (List GStep) → Option E218} {F : Orc} {f : Nat} (h : PureF F f) : PureF (x218 M F) f := orL_pure h (fun _ => by kernel_rfl)
def H218 (M : (List GStep) → Option E218) : Prop := HL Tryz.prog 218 A218 d218 (fun g => M g.1)
theorem x218_ok {M : (List GStep) → Option E218} (hM : H218 M) {F : Orc} (h : OrcG Tryz.prog F) : OrcG Tryz.prog (x218 M F) := eL_ok (sc := scU) scU_ok hM ⟨_, Tryz.func218, by kernel_rfl, by kernel_rfl⟩ (fun _ => by kernel_rfl) (fun _ => by kernel_rfl) h
def F218 (M218 : (List GStep) → Option E218) : Orc := (x218 M218 or0)
theorem F218_ok {M218} (h218 : H218 M218) : OrcG Tryz.prog (F218 M218) := (x218_ok h218 or0_g)
structure L218_0 where
 t0 : List GStep
 t3 : Int
 t4 : Int
def d218_0 : Td 0 L218_0 := .c [] [0, 3, 4] (.r 0 0 (ec 0 (ql 166) (ec 3 (qi .i64) (ec 4 (qi .i64) en))) sn (fun z => ⟨z.1.1, z.1.2.1, z.1.2.2.1⟩) (fun x => ((x.t0, x.t3, x.t4, ()), (()))) fun _ => rfl)
def n218_0 (M218 : (List GStep) → Option E218) (p : L218_0) : Option (Option L218_0) :=
 bif decide (p.t4 < (↑p.t0.length : Int)) then if (0 : Int) ≤ p.t4 ∧ p.t4 < (↑p.t0.length : Int) then match M218 p.t0[p.t4.toNat]!.fThen with | none => none | some r1 => if (0 : Int) ≤ p.t4 ∧ p.t4 < (↑p.t0.length : Int) then match M218 p.t0[p.t4.toNat]!.fElse with | none => none | some r2 => bif decide (p.t3 < i64.wrap (r1 + 1)) then bif decide (i64.wrap (r1 + 1) < i64.wrap (r2 + 1)) then some (some (L218_0.mk p.t0 (i64.wrap (r2 + 1)) (i64.wrap (p.t4 + 1)))) else some (some (L218_0.mk p.t0 (i64.wrap (r1 + 1)) (i64.wrap (p.t4 + 1)))) else bif decide (p.t3 < i64.wrap (r2 + 1)) then some (some (L218_0.mk p.t0 (i64.wrap (r2 + 1)) (i64.wrap (p.t4 + 1)))) else some (some (L218_0.mk p.t0 p.t3 (i64.wrap (p.t4 + 1)))) else none else none else some (none)
theorem q218_0 (M218 : (List GStep) → Option E218) (p : L218_0) : execA Tryz.prog (F218 M218) Tryz.f218.ntmps 300 (loopAt Tryz.f218 0) .no (Option L218_0) (d218_0.pat p) (kOn d218_0.rd) = n218_0 M218 p := by kernel_rfl
def a218_0 (M218 : (List GStep) → Option E218) : L218_0 → Option L218_0 := advG (n218_0 M218)
def an218 (M218 : (List GStep) → Option E218) : An := (.two .no (.two .no (.two (.two .no (d218_0.lp (a218_0 M218) .no)) .no)))
theorem fa218 (M218 : (List GStep) → Option E218) : FnAn Tryz.prog (F218 M218) 0 300 218 (an218 M218) := fnAn_of (l := [(loopAt Tryz.f218 0, (d218_0.lp (a218_0 M218) .no))]) Tryz.func218 (bodyOf_eq (by kernel_rfl)) (by kernel_rfl) (ob_cons ⟨d218_0.ok _, advG_ok (q218_0 M218)⟩ ob_nil)
def s218 (M218 : (List GStep) → Option E218) (a0 : List GStep) : Option E218 :=
 match a218_0 M218 (L218_0.mk a0 (0) (0)) with | none => none | some r3 => bif decide (r3.t4 < (↑r3.t0.length : Int)) then if (0 : Int) ≤ r3.t4 ∧ r3.t4 < (↑r3.t0.length : Int) then match M218 r3.t0[r3.t4.toNat]!.fThen with | none => none | some r4 => if (0 : Int) ≤ r3.t4 ∧ r3.t4 < (↑r3.t0.length : Int) then match M218 r3.t0[r3.t4.toNat]!.fElse with | none => none | some r5 => bif decide (r3.t3 < i64.wrap (r4 + 1)) then bif decide (i64.wrap (r4 + 1) < i64.wrap (r5 + 1)) then none else none else bif decide (r3.t3 < i64.wrap (r5 + 1)) then none else none else none else none else some (r3.t3)
theorem c218 (M218 : (List GStep) → Option E218) (a0 : List GStep) : callR Tryz.prog (F218 M218) 300 (an218 M218) 218 (A218.c (a0, ())) [] 0 d218.rd = s218 M218 a0 := by kernel_rfl
def mm218 : Nat → ((List GStep) → Option E218)
 | 0 => (fun _ => none)
 | n + 1 => (s218 (mm218 n))
def m218 (n : Nat) : (List GStep) → Option E218 := (mm218 n)
theorem mm218_ok : ∀ n, H218 (m218 n)
 | 0 => fun _ _ h => (by cases h)
 | n + 1 => by
  have ih := mm218_ok n
  have i218 := ih
  exact (hl_of (F218_ok i218) (fa218 (m218 n)) (fun _ => by kernel_rfl) (fun _ => by kernel_rfl) fun g => c218 (m218 n) g.1)
def r218 : (List GStep) → Option E218 := fun a0 => lim (fun n => m218 n a0)
theorem r218_ok : H218 r218 := fun g b h => by
 obtain ⟨n, hn⟩ := lim_some (show lim (fun n => m218 n g.1) = some b from h)
 exact (mm218_ok n) g b hn
def e218 (F : Orc) : Orc := x218 r218 F
theorem e218_ok {F : Orc} (h : OrcG Tryz.prog F) : OrcG Tryz.prog (e218 F) := x218_ok r218_ok h
theorem e218_pure {F : Orc} {f : Nat} (h : PureF F f) : PureF (e218 F) f := x218_pure h
abbrev E219 : Type := Bool
def d219 : Td 0 E219 := .c [] [2] (.r 0 0 (ec 2 qb en) sn (fun z => z.1.1) (fun x => ((x, ()), (()))) fun _ => rfl)
def A219 := (lc (ql 166) ln)
def x219 (M : (List GStep) → Option E219) : Orc → Orc := eL Tryz.prog 219 false A219 d219 (fun g => M g.1)
theorem x219_pure {M : (List GStep) → Option E219} {F : Orc} {f : Nat} (h : PureF F f) : PureF (x219 M F) f := orL_pure h (fun _ => by kernel_rfl)
def H219 (M : (List GStep) → Option E219) : Prop := HL Tryz.prog 219 A219 d219 (fun g => M g.1)
theorem x219_ok {M : (List GStep) → Option E219} (hM : H219 M) {F : Orc} (h : OrcG Tryz.prog F) : OrcG Tryz.prog (x219 M F) := eL_ok (sc := scU) scU_ok hM ⟨_, Tryz.func219, by kernel_rfl, by kernel_rfl⟩ (fun _ => by kernel_rfl) (fun _ => by kernel_rfl) h
def F219 (M219 : (List GStep) → Option E219) : Orc := (x219 M219 (e217 or0))
theorem F219_ok {M219} (h219 : H219 M219) : OrcG Tryz.prog (F219 M219) := (x219_ok h219 (e217_ok or0_g))
structure L219_0 where
 t0 : List GStep
 t3 : Int
def d219_0 : Td 0 L219_0 := .c [] [0, 3] (.r 0 0 (ec 0 (ql 166) (ec 3 (qi .i64) en)) sn (fun z => ⟨z.1.1, z.1.2.1⟩) (fun x => ((x.t0, x.t3, ()), (()))) fun _ => rfl)
def n219_0 (M219 : (List GStep) → Option E219) (p : L219_0) : Option (Option L219_0) :=
 bif decide (p.t3 < (↑p.t0.length : Int)) then match if (0 : Int) ≤ p.t3 ∧ p.t3 < (↑p.t0.length : Int) then match r217 (GTerm.mk p.t0[p.t3.toNat]!.fTerm.fOp p.t0[p.t3.toNat]!.fTerm.fN p.t0[p.t3.toNat]!.fTerm.fKids) with | none => none | some r1 => bif decide (12 < r1) then some (true) else if (0 : Int) ≤ p.t3 ∧ p.t3 < (↑p.t0.length : Int) then match M219 p.t0[p.t3.toNat]!.fThen with | none => none | some r2 => bif r2 then some (true) else if (0 : Int) ≤ p.t3 ∧ p.t3 < (↑p.t0.length : Int) then match M219 p.t0[p.t3.toNat]!.fElse with | none => none | some r3 => some (r3) else none else none else none with | none => none | some r4 => bif r4 then some (none) else some (some (L219_0.mk p.t0 (i64.wrap (p.t3 + 1)))) else some (none)
def g219_0 (M219 : (List GStep) → Option E219) : An := (.two .no (.two (.two (.rb [217, 219] 32) .no) .no))
theorem q219_0 (M219 : (List GStep) → Option E219) (p : L219_0) : execA Tryz.prog (F219 M219) Tryz.f219.ntmps 300 (loopAt Tryz.f219 0) (g219_0 M219) (Option L219_0) (d219_0.pat p) (kOn d219_0.rd) = n219_0 M219 p := by kernel_rfl
def a219_0 (M219 : (List GStep) → Option E219) : L219_0 → Option L219_0 := advG (n219_0 M219)
def an219 (M219 : (List GStep) → Option E219) : An := (.two .no (.two (.two .no (d219_0.lp (a219_0 M219) (g219_0 M219))) .no))
theorem pu219 {M219} : ∀ f ∈ ([217, 219] : List Nat), PureF (F219 M219) f := (ob_cons (x219_pure (e217_pure or0_pure)) (ob_cons (x219_pure (e217_pure or0_pure)) ob_nil))
theorem fa219 (M219 : (List GStep) → Option E219) : FnAn Tryz.prog (F219 M219) 0 300 219 (an219 M219) := fnAn_of (l := [(loopAt Tryz.f219 0, (d219_0.lp (a219_0 M219) (g219_0 M219))), (.skip, (.rb [217, 219] 32))]) Tryz.func219 (bodyOf_eq (by kernel_rfl)) (by kernel_rfl) (ob_cons ⟨d219_0.ok _, advG_ok (q219_0 M219)⟩ (ob_cons pu219 ob_nil))
def s219 (M219 : (List GStep) → Option E219) (a0 : List GStep) : Option E219 :=
 match a219_0 M219 (L219_0.mk a0 (0)) with | none => none | some r5 => bif decide (r5.t3 < (↑r5.t0.length : Int)) then match if (0 : Int) ≤ r5.t3 ∧ r5.t3 < (↑r5.t0.length : Int) then match r217 (GTerm.mk r5.t0[r5.t3.toNat]!.fTerm.fOp r5.t0[r5.t3.toNat]!.fTerm.fN r5.t0[r5.t3.toNat]!.fTerm.fKids) with | none => none | some r6 => bif decide (12 < r6) then some (true) else if (0 : Int) ≤ r5.t3 ∧ r5.t3 < (↑r5.t0.length : Int) then match M219 r5.t0[r5.t3.toNat]!.fThen with | none => none | some r7 => bif r7 then some (true) else if (0 : Int) ≤ r5.t3 ∧ r5.t3 < (↑r5.t0.length : Int) then match M219 r5.t0[r5.t3.toNat]!.fElse with | none => none | some r8 => some (r8) else none else none else none with | none => none | some r9 => bif r9 then some (true) else none else some (false)
theorem c219 (M219 : (List GStep) → Option E219) (a0 : List GStep) : callR Tryz.prog (F219 M219) 300 (an219 M219) 219 (A219.c (a0, ())) [] 0 d219.rd = s219 M219 a0 := by kernel_rfl
def mm219 : Nat → ((List GStep) → Option E219)
 | 0 => (fun _ => none)
 | n + 1 => (s219 (mm219 n))
def m219 (n : Nat) : (List GStep) → Option E219 := (mm219 n)
theorem mm219_ok : ∀ n, H219 (m219 n)
 | 0 => fun _ _ h => (by cases h)
 | n + 1 => by
  have ih := mm219_ok n
  have i219 := ih
  exact (hl_of (F219_ok i219) (fa219 (m219 n)) (fun _ => by kernel_rfl) (fun _ => by kernel_rfl) fun g => c219 (m219 n) g.1)
def r219 : (List GStep) → Option E219 := fun a0 => lim (fun n => m219 n a0)
theorem r219_ok : H219 r219 := fun g b h => by
 obtain ⟨n, hn⟩ := lim_some (show lim (fun n => m219 n g.1) = some b from h)
 exact (mm219_ok n) g b hn
def e219 (F : Orc) : Orc := x219 r219 F
theorem e219_ok {F : Orc} (h : OrcG Tryz.prog F) : OrcG Tryz.prog (e219 F) := x219_ok r219_ok h
theorem e219_pure {F : Orc} {f : Nat} (h : PureF F f) : PureF (e219 F) f := x219_pure h
def F138 : Orc := (e219 (e218 (e217 (e216 (e215 or0)))))
theorem F138_ok : OrcG Tryz.prog F138 := (e219_ok (e218_ok (e217_ok (e216_ok (e215_ok or0_g)))))
structure L138_0 where
 t3 : Int
 t4 : Int
 b0 : Flat
def d138_0 : Td 0 L138_0 := .c [] [1, 3, 4] (.r 0 1 (ec 1 (qp 0 0) (ec 3 (qi .i64) (ec 4 (qi .i64) en))) (sb 0 26 (lg 26) sn) (fun z => ⟨z.1.2.1, z.1.2.2.1, z.2.1⟩) (fun x => (((), x.t3, x.t4, ()), (x.b0, ()))) fun _ => rfl)
def n138_0 (p : L138_0) : Option (Option L138_0) :=
 bif decide (p.t4 < (↑p.b0.fHatches.length : Int)) then if (0 : Int) ≤ p.t4 ∧ p.t4 < (↑p.b0.fHatches.length : Int) then match r216 (GTerm.mk p.b0.fHatches[p.t4.toNat]!.fTerm.fOp p.b0.fHatches[p.t4.toNat]!.fTerm.fN p.b0.fHatches[p.t4.toNat]!.fTerm.fKids) with | none => none | some r1 => if (0 : Int) ≤ p.t4 ∧ p.t4 < (↑p.b0.fHatches.length : Int) then match r217 (GTerm.mk p.b0.fHatches[p.t4.toNat]!.fTerm.fOp p.b0.fHatches[p.t4.toNat]!.fTerm.fN p.b0.fHatches[p.t4.toNat]!.fTerm.fKids) with | none => none | some r2 => bif decide (12 < r2) then some (none) else some (some (L138_0.mk (i64.wrap (p.t3 + r1)) (i64.wrap (p.t4 + 1)) p.b0)) else none else none else some (none)
theorem q138_0 (p : L138_0) : execA Tryz.prog (F138) Tryz.f138.ntmps 300 (loopAt Tryz.f138 0) .no (Option L138_0) (d138_0.pat p) (kOn d138_0.rd) = n138_0 p := by kernel_rfl
def a138_0 : L138_0 → Option L138_0 := advG (n138_0)
abbrev E138 : Type := Bool
def d138 : Td 0 E138 := .c [] [2] (.r 0 0 (ec 2 qb en) sn (fun z => z.1.1) (fun x => ((x, ()), (()))) fun _ => rfl)
def A138 := (lc (qg 26) ln)
def an138 : An := (.two .no (.two (.two (.rb [218, 219] 14) .no) (.two .no (.two (.two .no (d138_0.lp a138_0 .no)) (.two (.rb [218, 219] 2) .no)))))
theorem pu138  : ∀ f ∈ ([218, 219] : List Nat), PureF (F138) f := (ob_cons (e219_pure (e218_pure (e217_pure (e216_pure (e215_pure or0_pure))))) (ob_cons (e219_pure (e218_pure (e217_pure (e216_pure (e215_pure or0_pure))))) ob_nil))
theorem fa138 : FnAn Tryz.prog (F138) 0 300 138 (an138) := fnAn_of (l := [(.skip, (.rb [218, 219] 14)), (loopAt Tryz.f138 0, (d138_0.lp a138_0 .no)), (.skip, (.rb [218, 219] 2))]) Tryz.func138 (bodyOf_eq (by kernel_rfl)) (by kernel_rfl) (ob_cons pu138 (ob_cons ⟨d138_0.ok _, advG_ok (q138_0)⟩ (ob_cons pu138 ob_nil)))
def m138 (a0 : Flat) : Option E138 :=
 match bif decide (64 < (↑a0.fVars.length : Int)) then some (true) else some (decide (8 < (↑a0.fHatches.length : Int))) with | none => none | some r3 => bif r3 then some (false) else match r215 a0.fBody with | none => none | some r4 => match a138_0 (L138_0.mk r4 (0) a0) with | none => none | some r5 => bif decide (r5.t4 < (↑r5.b0.fHatches.length : Int)) then if (0 : Int) ≤ r5.t4 ∧ r5.t4 < (↑r5.b0.fHatches.length : Int) then match r216 (GTerm.mk r5.b0.fHatches[r5.t4.toNat]!.fTerm.fOp r5.b0.fHatches[r5.t4.toNat]!.fTerm.fN r5.b0.fHatches[r5.t4.toNat]!.fTerm.fKids) with | none => none | some r6 => if (0 : Int) ≤ r5.t4 ∧ r5.t4 < (↑r5.b0.fHatches.length : Int) then match r217 (GTerm.mk r5.b0.fHatches[r5.t4.toNat]!.fTerm.fOp r5.b0.fHatches[r5.t4.toNat]!.fTerm.fN r5.b0.fHatches[r5.t4.toNat]!.fTerm.fKids) with | none => none | some r7 => bif decide (12 < r7) then some (false) else none else none else none else match bif decide (r5.t3 ≤ 1024) then match r218 r5.b0.fBody with | none => none | some r8 => bif decide (r8 ≤ 12) then match r219 r5.b0.fBody with | none => none | some r9 => some (bif r9 then false else true) else some (false) else some (false) with | none => none | some r10 => some (r10)
theorem c138 (a0 : Flat) : callR Tryz.prog (F138) 300 (an138) 138 (A138.c (a0, ())) [] 0 d138.rd = m138 a0 := by kernel_rfl
def e138 : Orc → Orc := eL Tryz.prog 138 false A138 d138 (fun g => m138 g.1)
theorem e138_ok {F : Orc} (h : OrcG Tryz.prog F) : OrcG Tryz.prog (e138 F) := eL_ok (sc := scU) scU_ok (hl_of F138_ok fa138 (fun _ => by kernel_rfl) (fun _ => by kernel_rfl) fun g => c138 g.1) ⟨_, Tryz.func138, by kernel_rfl, by kernel_rfl⟩ (fun _ => by kernel_rfl) (fun _ => by kernel_rfl) h
def F140 : Orc := or0
theorem F140_ok : OrcG Tryz.prog F140 := or0_g
structure L140_0 where
 t0 : ByteArray
 t3 : Int
def d140_0 : Td 0 L140_0 := .c [] [0, 3] (.r 0 0 (ec 0 qs (ec 3 (qi .i64) en)) sn (fun z => ⟨z.1.1, z.1.2.1⟩) (fun x => ((x.t0, x.t3, ()), (()))) fun _ => rfl)
def n140_0 (p : L140_0) : Option (Option L140_0) :=
 bif decide (p.t3 < (↑p.t0.size : Int)) then if (0 : Int) ≤ p.t3 ∧ p.t3 < (↑p.t0.size : Int) then match bif decide (97 ≤ byteAt p.t0 p.t3.toNat) then some (decide (byteAt p.t0 p.t3.toNat ≤ 122)) else some (false) with | none => none | some r1 => match bif decide (48 ≤ byteAt p.t0 p.t3.toNat) then bif decide (byteAt p.t0 p.t3.toNat ≤ 57) then some (true) else bif decide (byteAt p.t0 p.t3.toNat = 46) then some (true) else some (decide (byteAt p.t0 p.t3.toNat = 95)) else bif decide (byteAt p.t0 p.t3.toNat = 46) then some (true) else some (decide (byteAt p.t0 p.t3.toNat = 95)) with | none => none | some r2 => match bif bif r1 then false else true then bif decide (p.t3 = 0) then some (true) else some (bif r2 then false else true) else some (false) with | none => none | some r3 => bif r3 then some (none) else some (some (L140_0.mk p.t0 (i64.wrap (p.t3 + 1)))) else none else some (none)
def g140_0 : An := (.two .no (.two (.two .no (.two (.rb [] 5) (.two (.rb [] 6) (.two (.rb [] 53) .no)))) .no))
theorem q140_0 (p : L140_0) : execA Tryz.prog (F140) Tryz.f140.ntmps 300 (loopAt Tryz.f140 0) g140_0 (Option L140_0) (d140_0.pat p) (kOn d140_0.rd) = n140_0 p := by kernel_rfl
def a140_0 : L140_0 → Option L140_0 := advG (n140_0)
abbrev E140 : Type := Bool
def d140 : Td 0 E140 := .c [] [2] (.r 0 0 (ec 2 qb en) sn (fun z => z.1.1) (fun x => ((x, ()), (()))) fun _ => rfl)
def A140 := (lc qs ln)
def an140 : An := (.two .no (.two (.two (.rb [] 14) .no) (.two (.two .no (d140_0.lp a140_0 g140_0)) .no)))
theorem pu140  : ∀ f ∈ ([] : List Nat), PureF (F140) f := ob_nil
theorem fa140 : FnAn Tryz.prog (F140) 0 300 140 (an140) := fnAn_of (l := [(.skip, (.rb [] 14)), (loopAt Tryz.f140 0, (d140_0.lp a140_0 g140_0)), (.skip, (.rb [] 5)), (.skip, (.rb [] 6)), (.skip, (.rb [] 53))]) Tryz.func140 (bodyOf_eq (by kernel_rfl)) (by kernel_rfl) (ob_cons pu140 (ob_cons ⟨d140_0.ok _, advG_ok (q140_0)⟩ (ob_cons pu140 (ob_cons pu140 (ob_cons pu140 ob_nil)))))
def m140 (a0 : ByteArray) : Option E140 :=
 match bif decide ((↑a0.size : Int) < 1) then some (true) else some (decide (40 < (↑a0.size : Int))) with | none => none | some r4 => bif r4 then some (false) else match a140_0 (L140_0.mk a0 (0)) with | none => none | some r5 => bif decide (r5.t3 < (↑r5.t0.size : Int)) then if (0 : Int) ≤ r5.t3 ∧ r5.t3 < (↑r5.t0.size : Int) then match bif decide (97 ≤ byteAt r5.t0 r5.t3.toNat) then some (decide (byteAt r5.t0 r5.t3.toNat ≤ 122)) else some (false) with | none => none | some r6 => match bif decide (48 ≤ byteAt r5.t0 r5.t3.toNat) then bif decide (byteAt r5.t0 r5.t3.toNat ≤ 57) then some (true) else bif decide (byteAt r5.t0 r5.t3.toNat = 46) then some (true) else some (decide (byteAt r5.t0 r5.t3.toNat = 95)) else bif decide (byteAt r5.t0 r5.t3.toNat = 46) then some (true) else some (decide (byteAt r5.t0 r5.t3.toNat = 95)) with | none => none | some r7 => match bif bif r6 then false else true then bif decide (r5.t3 = 0) then some (true) else some (bif r7 then false else true) else some (false) with | none => none | some r8 => bif r8 then some (false) else none else none else some (true)
theorem c140 (a0 : ByteArray) : callR Tryz.prog (F140) 300 (an140) 140 (A140.c (a0, ())) [] 0 d140.rd = m140 a0 := by kernel_rfl
def e140 : Orc → Orc := eL Tryz.prog 140 false A140 d140 (fun g => m140 g.1)
theorem e140_ok {F : Orc} (h : OrcG Tryz.prog F) : OrcG Tryz.prog (e140 F) := eL_ok (sc := scU) scU_ok (hl_of F140_ok fa140 (fun _ => by kernel_rfl) (fun _ => by kernel_rfl) fun g => c140 g.1) ⟨_, Tryz.func140, by kernel_rfl, by kernel_rfl⟩ (fun _ => by kernel_rfl) (fun _ => by kernel_rfl) h
theorem e140_pure {F : Orc} {f : Nat} (h : PureF F f) : PureF (e140 F) f := orL_pure h (fun _ => by kernel_rfl)
def F141 : Orc := or0
theorem F141_ok : OrcG Tryz.prog F141 := or0_g
abbrev E141 : Type := Bool
def d141 : Td 0 E141 := .c [] [4] (.r 0 0 (ec 4 qb en) sn (fun z => z.1.1) (fun x => ((x, ()), (()))) fun _ => rfl)
def A141 := (lc (qi .i64) (lc (qi .i64) ln))
def an141 : An := (.two .no (.two (.rb [] 4) .no))
theorem pu141  : ∀ f ∈ ([] : List Nat), PureF (F141) f := ob_nil
theorem fa141 : FnAn Tryz.prog (F141) 0 300 141 (an141) := fnAn_of (l := [(.skip, (.rb [] 4))]) Tryz.func141 (bodyOf_eq (by kernel_rfl)) (by kernel_rfl) (ob_cons pu141 ob_nil)
def m141 (a0 : Int) (a1 : Int) : E141 :=
 let r1 : Bool := bif decide (a0 ≤ a1) then bif decide (-1048576 ≤ a0) then decide (a1 ≤ 1048576) else false else false; r1
theorem c141 (a0 : Int) (a1 : Int) : callR Tryz.prog (F141) 300 (an141) 141 (A141.c (a0, a1, ())) [] 0 d141.rd = some (m141 a0 a1) := by
 refine Eq.trans (b := (
  match bif decide (a0 ≤ a1) then bif decide (-1048576 ≤ a0) then some (decide (a1 ≤ 1048576)) else some (false) else some (false) with | none => none | some r1 => some (r1) : Option E141)) (by kernel_rfl) ?_
 simp only [m141, cond_some, ite_some]
def e141 : Orc → Orc := eL Tryz.prog 141 false A141 d141 (fun g => some (m141 g.1 g.2.1))
theorem e141_ok {F : Orc} (h : OrcG Tryz.prog F) : OrcG Tryz.prog (e141 F) := eL_ok (sc := scU) scU_ok (hl_of F141_ok fa141 (fun _ => by kernel_rfl) (fun _ => by kernel_rfl) fun g => c141 g.1 g.2.1) ⟨_, Tryz.func141, by kernel_rfl, by kernel_rfl⟩ (fun _ => by kernel_rfl) (fun _ => by kernel_rfl) h
theorem e141_pure {F : Orc} {f : Nat} (h : PureF F f) : PureF (e141 F) f := orL_pure h (fun _ => by kernel_rfl)
def F220 : Orc := or0
theorem F220_ok : OrcG Tryz.prog F220 := or0_g
structure L220_0 where
 t0 : List GVar
 t1 : Int
 t5 : Int
 t6 : Int
def d220_0 : Td 0 L220_0 := .c [] [0, 1, 5, 6] (.r 0 0 (ec 0 (ql 131) (ec 1 (qi .i64) (ec 5 (qi .i64) (ec 6 (qi .i64) en)))) sn (fun z => ⟨z.1.1, z.1.2.1, z.1.2.2.1, z.1.2.2.2.1⟩) (fun x => ((x.t0, x.t1, x.t5, x.t6, ()), (()))) fun _ => rfl)
def n220_0 (p : L220_0) : Option (Option L220_0) :=
 bif decide (p.t6 < (↑p.t0.length : Int)) then if (0 : Int) ≤ p.t6 ∧ p.t6 < (↑p.t0.length : Int) then bif bif decide (p.t0[p.t6.toNat]!.fKind = p.t1) then false else true then some (some (L220_0.mk p.t0 p.t1 p.t5 (i64.wrap (p.t6 + 1)))) else if (0 : Int) ≤ p.t6 ∧ p.t6 < (↑p.t0.length : Int) then if (0 : Int) ≤ p.t6 ∧ p.t6 < (↑p.t0.length : Int) then bif decide (4096 < i64.wrap (p.t5 * i64.wrap (i64.wrap (p.t0[p.t6.toNat]!.fHigh - p.t0[p.t6.toNat]!.fLow) + 1))) then some (none) else some (some (L220_0.mk p.t0 p.t1 (i64.wrap (p.t5 * i64.wrap (i64.wrap (p.t0[p.t6.toNat]!.fHigh - p.t0[p.t6.toNat]!.fLow) + 1))) (i64.wrap (p.t6 + 1)))) else none else none else none else some (none)
theorem q220_0 (p : L220_0) : execA Tryz.prog (F220) Tryz.f220.ntmps 300 (loopAt Tryz.f220 0) .no (Option L220_0) (d220_0.pat p) (kOn d220_0.rd) = n220_0 p := by kernel_rfl
def a220_0 : L220_0 → Option L220_0 := advG (n220_0)
abbrev E220 : Type := Int
def d220 : Td 0 E220 := .c [] [4] (.r 0 0 (ec 4 (qi .i64) en) sn (fun z => z.1.1) (fun x => ((x, ()), (()))) fun _ => rfl)
def A220 := (lc (ql 131) (lc (qi .i64) ln))
def an220 : An := (.two .no (.two .no (.two (.two .no (d220_0.lp a220_0 .no)) .no)))
theorem fa220 : FnAn Tryz.prog (F220) 0 300 220 (an220) := fnAn_of (l := [(loopAt Tryz.f220 0, (d220_0.lp a220_0 .no))]) Tryz.func220 (bodyOf_eq (by kernel_rfl)) (by kernel_rfl) (ob_cons ⟨d220_0.ok _, advG_ok (q220_0)⟩ ob_nil)
def m220 (a0 : List GVar) (a1 : Int) : Option E220 :=
 match a220_0 (L220_0.mk a0 a1 (1) (0)) with | none => none | some r1 => bif decide (r1.t6 < (↑r1.t0.length : Int)) then if (0 : Int) ≤ r1.t6 ∧ r1.t6 < (↑r1.t0.length : Int) then bif bif decide (r1.t0[r1.t6.toNat]!.fKind = r1.t1) then false else true then none else if (0 : Int) ≤ r1.t6 ∧ r1.t6 < (↑r1.t0.length : Int) then if (0 : Int) ≤ r1.t6 ∧ r1.t6 < (↑r1.t0.length : Int) then bif decide (4096 < i64.wrap (r1.t5 * i64.wrap (i64.wrap (r1.t0[r1.t6.toNat]!.fHigh - r1.t0[r1.t6.toNat]!.fLow) + 1))) then some (4097) else none else none else none else none else some (r1.t5)
theorem c220 (a0 : List GVar) (a1 : Int) : callR Tryz.prog (F220) 300 (an220) 220 (A220.c (a0, a1, ())) [] 0 d220.rd = m220 a0 a1 := by kernel_rfl
def e220 : Orc → Orc := eL Tryz.prog 220 false A220 d220 (fun g => m220 g.1 g.2.1)
theorem e220_ok {F : Orc} (h : OrcG Tryz.prog F) : OrcG Tryz.prog (e220 F) := eL_ok (sc := scU) scU_ok (hl_of F220_ok fa220 (fun _ => by kernel_rfl) (fun _ => by kernel_rfl) fun g => c220 g.1 g.2.1) ⟨_, Tryz.func220, by kernel_rfl, by kernel_rfl⟩ (fun _ => by kernel_rfl) (fun _ => by kernel_rfl) h
theorem e220_pure {F : Orc} {f : Nat} (h : PureF F f) : PureF (e220 F) f := orL_pure h (fun _ => by kernel_rfl)
def F139 : Orc := (e220 (e141 (e140 or0)))
theorem F139_ok : OrcG Tryz.prog F139 := (e220_ok (e141_ok (e140_ok or0_g)))
structure L139_1 where
 t0 : List GVar
 t3 : Int
 t5 : Int
 b0 : GVar
def d139_1 : Td 0 L139_1 := .c [] [0, 3, 4, 5] (.r 0 1 (ec 0 (ql 131) (ec 3 (qi .i64) (ec 4 (qp 0 0) (ec 5 (qi .i64) en)))) (sb 0 131 (lg 131) sn) (fun z => ⟨z.1.1, z.1.2.1, z.1.2.2.2.1, z.2.1⟩) (fun x => ((x.t0, x.t3, (), x.t5, ()), (x.b0, ()))) fun _ => rfl)
def n139_1 (p : L139_1) : Option (Option L139_1) :=
 bif decide (p.t5 < p.t3) then if (0 : Int) ≤ p.t5 ∧ p.t5 < (↑p.t0.length : Int) then bif p.t0[p.t5.toNat]!.fName.toList == p.b0.fName.toList then some (none) else some (some (L139_1.mk p.t0 p.t3 (i64.wrap (p.t5 + 1)) p.b0)) else none else some (none)
theorem q139_1 (p : L139_1) : execA Tryz.prog (F139) Tryz.f139.ntmps 300 (loopAt Tryz.f139 1) .no (Option L139_1) (d139_1.pat p) (kOn d139_1.rd) = n139_1 p := by kernel_rfl
def a139_1 : L139_1 → Option L139_1 := advG (n139_1)
structure L139_0 where
 t0 : List GVar
 t3 : Int
def d139_0 : Td 0 L139_0 := .c [] [0, 3] (.r 0 0 (ec 0 (ql 131) (ec 3 (qi .i64) en)) sn (fun z => ⟨z.1.1, z.1.2.1⟩) (fun x => ((x.t0, x.t3, ()), (()))) fun _ => rfl)
def n139_0 (p : L139_0) : Option (Option L139_0) :=
 bif decide (p.t3 < (↑p.t0.length : Int)) then if (0 : Int) ≤ p.t3 ∧ p.t3 < (↑p.t0.length : Int) then match m140 p.t0[p.t3.toNat]!.fName with | none => none | some r1 => bif bif r1 then false else true then some (none) else match a139_1 (L139_1.mk p.t0 p.t3 (0) p.t0[p.t3.toNat]!) with | none => none | some r2 => bif decide (r2.t5 < r2.t3) then if (0 : Int) ≤ r2.t5 ∧ r2.t5 < (↑r2.t0.length : Int) then bif r2.t0[r2.t5.toNat]!.fName.toList == r2.b0.fName.toList then some (none) else none else none else match bif bif decide (r2.b0.fKind = 0) then false else true then bif bif decide (r2.b0.fKind = 1) then false else true then bif bif decide (r2.b0.fKind = 2) then false else true then some (bif decide (r2.b0.fKind = 3) then false else true) else some (false) else some (false) else some (false) with | none => none | some r3 => bif r3 then some (none) else bif bif m141 r2.b0.fLow r2.b0.fHigh then false else true then some (none) else match bif decide (r2.b0.fKind = 0) then bif decide (r2.b0.fInit < r2.b0.fLow) then some (true) else bif decide (r2.b0.fHigh < r2.b0.fInit) then some (true) else bif bif decide (r2.b0.fKind = 0) then false else true then some (bif decide (r2.b0.fInit = 0) then false else true) else some (false) else bif bif decide (r2.b0.fKind = 0) then false else true then some (bif decide (r2.b0.fInit = 0) then false else true) else some (false) with | none => none | some r4 => bif r4 then some (none) else some (some (L139_0.mk r2.t0 (i64.wrap (r2.t3 + 1)))) else none else some (none)
def g139_0 : An := (.two .no (.two (.two .no (.two .no (.two (.two .no (d139_1.lp a139_1 .no)) (.two (.two (.rb [220] 50) .no) (.two .no (.two (.rb [220] 83) .no)))))) .no))
theorem q139_0 (p : L139_0) : execA Tryz.prog (F139) Tryz.f139.ntmps 300 (loopAt Tryz.f139 0) g139_0 (Option L139_0) (d139_0.pat p) (kOn d139_0.rd) = n139_0 p := by kernel_rfl
def a139_0 : L139_0 → Option L139_0 := advG (n139_0)
abbrev E139 : Type := Int
def d139 : Td 0 E139 := .c [] [2] (.r 0 0 (ec 2 (qi .i64) en) sn (fun z => z.1.1) (fun x => ((x, ()), (()))) fun _ => rfl)
def A139 := (lc (ql 131) ln)
def an139 : An := (.two .no (.two (.two .no (d139_0.lp a139_0 g139_0)) (.two (.two (.rb [220] 96) .no) .no)))
theorem pu139  : ∀ f ∈ ([220] : List Nat), PureF (F139) f := (ob_cons (e220_pure (e141_pure (e140_pure or0_pure))) ob_nil)
theorem fa139 : FnAn Tryz.prog (F139) 0 300 139 (an139) := fnAn_of (l := [(loopAt Tryz.f139 0, (d139_0.lp a139_0 g139_0)), (loopAt Tryz.f139 1, (d139_1.lp a139_1 .no)), (.skip, (.rb [220] 50)), (.skip, (.rb [220] 83)), (.skip, (.rb [220] 96))]) Tryz.func139 (bodyOf_eq (by kernel_rfl)) (by kernel_rfl) (ob_cons ⟨d139_0.ok _, advG_ok (q139_0)⟩ (ob_cons ⟨d139_1.ok _, advG_ok (q139_1)⟩ (ob_cons pu139 (ob_cons pu139 (ob_cons pu139 ob_nil)))))
def m139 (a0 : List GVar) : Option E139 :=
 match a139_0 (L139_0.mk a0 (0)) with | none => none | some r5 => bif decide (r5.t3 < (↑r5.t0.length : Int)) then if (0 : Int) ≤ r5.t3 ∧ r5.t3 < (↑r5.t0.length : Int) then match m140 r5.t0[r5.t3.toNat]!.fName with | none => none | some r6 => bif bif r6 then false else true then some (7) else match a139_1 (L139_1.mk r5.t0 r5.t3 (0) r5.t0[r5.t3.toNat]!) with | none => none | some r7 => bif decide (r7.t5 < r7.t3) then if (0 : Int) ≤ r7.t5 ∧ r7.t5 < (↑r7.t0.length : Int) then bif r7.t0[r7.t5.toNat]!.fName.toList == r7.b0.fName.toList then some (8) else none else none else match bif bif decide (r7.b0.fKind = 0) then false else true then bif bif decide (r7.b0.fKind = 1) then false else true then bif bif decide (r7.b0.fKind = 2) then false else true then some (bif decide (r7.b0.fKind = 3) then false else true) else some (false) else some (false) else some (false) with | none => none | some r8 => bif r8 then some (1) else bif bif m141 r7.b0.fLow r7.b0.fHigh then false else true then some (3) else match bif decide (r7.b0.fKind = 0) then bif decide (r7.b0.fInit < r7.b0.fLow) then some (true) else bif decide (r7.b0.fHigh < r7.b0.fInit) then some (true) else bif bif decide (r7.b0.fKind = 0) then false else true then some (bif decide (r7.b0.fInit = 0) then false else true) else some (false) else bif bif decide (r7.b0.fKind = 0) then false else true then some (bif decide (r7.b0.fInit = 0) then false else true) else some (false) with | none => none | some r9 => bif r9 then some (3) else none else none else match match m220 r5.t0 (1) with | none => none | some r10 => bif decide (4096 < r10) then some (true) else match m220 r5.t0 (2) with | none => none | some r11 => bif decide (4096 < r11) then some (true) else match m220 r5.t0 (3) with | none => none | some r12 => some (decide (256 < r12)) with | none => none | some r13 => bif r13 then some (4) else some (0)
theorem c139 (a0 : List GVar) : callR Tryz.prog (F139) 300 (an139) 139 (A139.c (a0, ())) [] 0 d139.rd = m139 a0 := by kernel_rfl
def e139 : Orc → Orc := eL Tryz.prog 139 false A139 d139 (fun g => m139 g.1)
theorem e139_ok {F : Orc} (h : OrcG Tryz.prog F) : OrcG Tryz.prog (e139 F) := eL_ok (sc := scU) scU_ok (hl_of F139_ok fa139 (fun _ => by kernel_rfl) (fun _ => by kernel_rfl) fun g => c139 g.1) ⟨_, Tryz.func139, by kernel_rfl, by kernel_rfl⟩ (fun _ => by kernel_rfl) (fun _ => by kernel_rfl) h
def F270 : Orc := or0
theorem F270_ok : OrcG Tryz.prog F270 := or0_g
abbrev E270 : Type := Int
def d270 : Td 0 E270 := .c [] [2] (.r 0 0 (ec 2 (qi .i64) en) sn (fun z => z.1.1) (fun x => ((x, ()), (()))) fun _ => rfl)
def A270 := (lc (qi .i64) ln)
def an270 : An := .no
theorem fa270 : FnAn Tryz.prog (F270) 0 300 270 (an270) := fnAn_of (l := []) Tryz.func270 (bodyOf_eq (by kernel_rfl)) (by kernel_rfl) ob_nil
def m270 (a0 : Int) : E270 :=
 bif decide (a0 = 0) then 0 else bif decide (a0 = 24) then 0 else bif decide (a0 = 6) then 1 else bif decide (a0 = 7) then 1 else bif decide (a0 = 8) then 2 else bif decide (a0 = 9) then 2 else bif decide (a0 = 10) then 2 else bif decide (a0 = 11) then 2 else bif decide (a0 = 12) then 2 else bif decide (a0 = 13) then 2 else bif decide (a0 = 14) then 2 else bif decide (a0 = 15) then 2 else bif decide (a0 = 16) then 2 else bif decide (a0 = 17) then 2 else bif decide (a0 = 18) then 2 else bif decide (a0 = 19) then 2 else bif decide (a0 = 20) then 2 else bif decide (a0 = 21) then 2 else bif decide (a0 = 22) then 2 else bif decide (a0 = 23) then 3 else bif decide (a0 = 25) then -2 else -1
theorem c270 (a0 : Int) : callR Tryz.prog (F270) 300 (an270) 270 (A270.c (a0, ())) [] 0 d270.rd = some (m270 a0) := by
 refine Eq.trans (b := (
  bif decide (a0 = 0) then some (0) else bif decide (a0 = 24) then some (0) else bif decide (a0 = 6) then some (1) else bif decide (a0 = 7) then some (1) else bif decide (a0 = 8) then some (2) else bif decide (a0 = 9) then some (2) else bif decide (a0 = 10) then some (2) else bif decide (a0 = 11) then some (2) else bif decide (a0 = 12) then some (2) else bif decide (a0 = 13) then some (2) else bif decide (a0 = 14) then some (2) else bif decide (a0 = 15) then some (2) else bif decide (a0 = 16) then some (2) else bif decide (a0 = 17) then some (2) else bif decide (a0 = 18) then some (2) else bif decide (a0 = 19) then some (2) else bif decide (a0 = 20) then some (2) else bif decide (a0 = 21) then some (2) else bif decide (a0 = 22) then some (2) else bif decide (a0 = 23) then some (3) else bif decide (a0 = 25) then some (-2) else some (-1) : Option E270)) (by kernel_rfl) ?_
 simp only [m270, cond_some, ite_some]
def e270 : Orc → Orc := eL Tryz.prog 270 false A270 d270 (fun g => some (m270 g.1))
theorem e270_ok {F : Orc} (h : OrcG Tryz.prog F) : OrcG Tryz.prog (e270 F) := eL_ok (sc := scU) scU_ok (hl_of F270_ok fa270 (fun _ => by kernel_rfl) (fun _ => by kernel_rfl) fun g => c270 g.1) ⟨_, Tryz.func270, by kernel_rfl, by kernel_rfl⟩ (fun _ => by kernel_rfl) (fun _ => by kernel_rfl) h
abbrev E221 : Type := Bool
def d221 : Td 0 E221 := .c [] [6] (.r 0 0 (ec 6 qb en) sn (fun z => z.1.1) (fun x => ((x, ()), (()))) fun _ => rfl)
def A221 := (lc (ql 131) (lc (qg 137) (lc qb ln)))
def x221 (M : (List GVar) → GTerm → Bool → Option E221) : Orc → Orc := eL Tryz.prog 221 false A221 d221 (fun g => M g.1 g.2.1 g.2.2.1)
def H221 (M : (List GVar) → GTerm → Bool → Option E221) : Prop := HL Tryz.prog 221 A221 d221 (fun g => M g.1 g.2.1 g.2.2.1)
theorem x221_ok {M : (List GVar) → GTerm → Bool → Option E221} (hM : H221 M) {F : Orc} (h : OrcG Tryz.prog F) : OrcG Tryz.prog (x221 M F) := eL_ok (sc := scU) scU_ok hM ⟨_, Tryz.func221, by kernel_rfl, by kernel_rfl⟩ (fun _ => by kernel_rfl) (fun _ => by kernel_rfl) h
def F221 (M221 : (List GVar) → GTerm → Bool → Option E221) : Orc := (e270 (x221 M221 or0))
theorem F221_ok {M221} (h221 : H221 M221) : OrcG Tryz.prog (F221 M221) := (e270_ok (x221_ok h221 or0_g))
structure L221_0 where
 t0 : List GVar
 t2 : Bool
 t8 : Int
 b0 : GTerm
def d221_0 : Td 0 L221_0 := .c [] [0, 2, 4, 8] (.r 0 1 (ec 0 (ql 131) (ec 2 qb (ec 4 (qp 0 0) (ec 8 (qi .i64) en)))) (sb 0 137 (lg 137) sn) (fun z => ⟨z.1.1, z.1.2.1, z.1.2.2.2.1, z.2.1⟩) (fun x => ((x.t0, x.t2, (), x.t8, ()), (x.b0, ()))) fun _ => rfl)
def n221_0 (M221 : (List GVar) → GTerm → Bool → Option E221) (p : L221_0) : Option (Option L221_0) :=
 bif decide (p.t8 < (↑p.b0.fKids.length : Int)) then if (0 : Int) ≤ p.t8 ∧ p.t8 < (↑p.b0.fKids.length : Int) then match M221 p.t0 (GTerm.mk p.b0.fKids[p.t8.toNat]!.fOp p.b0.fKids[p.t8.toNat]!.fN p.b0.fKids[p.t8.toNat]!.fKids) p.t2 with | none => none | some r1 => bif bif r1 then false else true then some (none) else some (some (L221_0.mk p.t0 p.t2 (i64.wrap (p.t8 + 1)) (GTerm.mk p.b0.fOp p.b0.fN p.b0.fKids))) else none else some (none)
theorem q221_0 (M221 : (List GVar) → GTerm → Bool → Option E221) (p : L221_0) : execA Tryz.prog (F221 M221) Tryz.f221.ntmps 300 (loopAt Tryz.f221 0) .no (Option L221_0) (d221_0.pat p) (kOn d221_0.rd) = n221_0 M221 p := by kernel_rfl
def a221_0 (M221 : (List GVar) → GTerm → Bool → Option E221) : L221_0 → Option L221_0 := advG (n221_0 M221)
def an221 (M221 : (List GVar) → GTerm → Bool → Option E221) : An := (.two .no (.two .no (.two (.two (.rb [] 40) .no) (.two (.two .no (.two (.two (.rb [] 65) .no) (.two (.rb [] 73) .no))) (.two (.two .no (d221_0.lp (a221_0 M221) .no)) .no)))))
theorem pu221 {M221} : ∀ f ∈ ([] : List Nat), PureF (F221 M221) f := ob_nil
theorem fa221 (M221 : (List GVar) → GTerm → Bool → Option E221) : FnAn Tryz.prog (F221 M221) 0 300 221 (an221 M221) := fnAn_of (l := [(.skip, (.rb [] 40)), (.skip, (.rb [] 65)), (.skip, (.rb [] 73)), (loopAt Tryz.f221 0, (d221_0.lp (a221_0 M221) .no))]) Tryz.func221 (bodyOf_eq (by kernel_rfl)) (by kernel_rfl) (ob_cons pu221 (ob_cons pu221 (ob_cons pu221 (ob_cons ⟨d221_0.ok _, advG_ok (q221_0 M221)⟩ ob_nil))))
def s221 (M221 : (List GVar) → GTerm → Bool → Option E221) (a0 : List GVar) (a1 : GTerm) (a2 : Bool) : Option E221 :=
 match bif decide (m270 a1.fOp = -1) then some (true) else bif decide (0 ≤ m270 a1.fOp) then bif bif decide ((↑a1.fKids.length : Int) = m270 a1.fOp) then false else true then some (true) else bif decide (m270 a1.fOp = -2) then bif decide ((↑a1.fKids.length : Int) < 2) then some (true) else some (decide (33 < (↑a1.fKids.length : Int))) else some (false) else bif decide (m270 a1.fOp = -2) then bif decide ((↑a1.fKids.length : Int) < 2) then some (true) else some (decide (33 < (↑a1.fKids.length : Int))) else some (false) with | none => none | some r2 => bif r2 then some (false) else bif decide (a1.fOp = 24) then match bif decide (a1.fN < 0) then some (true) else bif decide ((↑a0.length : Int) ≤ a1.fN) then some (true) else bif a2 then if (0 : Int) ≤ a1.fN ∧ a1.fN < (↑a0.length : Int) then some (decide (a0[a1.fN.toNat]!.fKind = 0)) else none else some (false) with | none => none | some r3 => bif r3 then some (false) else match a221_0 M221 (L221_0.mk a0 a2 (0) (GTerm.mk a1.fOp a1.fN a1.fKids)) with | none => none | some r4 => bif decide (r4.t8 < (↑r4.b0.fKids.length : Int)) then if (0 : Int) ≤ r4.t8 ∧ r4.t8 < (↑r4.b0.fKids.length : Int) then match M221 r4.t0 (GTerm.mk r4.b0.fKids[r4.t8.toNat]!.fOp r4.b0.fKids[r4.t8.toNat]!.fN r4.b0.fKids[r4.t8.toNat]!.fKids) r4.t2 with | none => none | some r5 => bif bif r5 then false else true then some (false) else none else none else some (true) else match bif bif decide (a1.fOp = 0) then false else true then some (bif decide (a1.fN = 0) then false else true) else some (false) with | none => none | some r6 => bif r6 then some (false) else match a221_0 M221 (L221_0.mk a0 a2 (0) (GTerm.mk a1.fOp a1.fN a1.fKids)) with | none => none | some r7 => bif decide (r7.t8 < (↑r7.b0.fKids.length : Int)) then if (0 : Int) ≤ r7.t8 ∧ r7.t8 < (↑r7.b0.fKids.length : Int) then match M221 r7.t0 (GTerm.mk r7.b0.fKids[r7.t8.toNat]!.fOp r7.b0.fKids[r7.t8.toNat]!.fN r7.b0.fKids[r7.t8.toNat]!.fKids) r7.t2 with | none => none | some r8 => bif bif r8 then false else true then some (false) else none else none else some (true)
theorem c221 (M221 : (List GVar) → GTerm → Bool → Option E221) (a0 : List GVar) (a1 : GTerm) (a2 : Bool) : callR Tryz.prog (F221 M221) 300 (an221 M221) 221 (A221.c (a0, a1, a2, ())) [] 0 d221.rd = s221 M221 a0 a1 a2 := by kernel_rfl
def mm221 : Nat → ((List GVar) → GTerm → Bool → Option E221)
 | 0 => (fun _ _ _ => none)
 | n + 1 => (s221 (mm221 n))
def m221 (n : Nat) : (List GVar) → GTerm → Bool → Option E221 := (mm221 n)
theorem mm221_ok : ∀ n, H221 (m221 n)
 | 0 => fun _ _ h => (by cases h)
 | n + 1 => by
  have ih := mm221_ok n
  have i221 := ih
  exact (hl_of (F221_ok i221) (fa221 (m221 n)) (fun _ => by kernel_rfl) (fun _ => by kernel_rfl) fun g => c221 (m221 n) g.1 g.2.1 g.2.2.1)
def r221 : (List GVar) → GTerm → Bool → Option E221 := fun a0 a1 a2 => lim (fun n => m221 n a0 a1 a2)
theorem r221_ok : H221 r221 := fun g b h => by
 obtain ⟨n, hn⟩ := lim_some (show lim (fun n => m221 n g.1 g.2.1 g.2.2.1) = some b from h)
 exact (mm221_ok n) g b hn
def e221 (F : Orc) : Orc := x221 r221 F
theorem e221_ok {F : Orc} (h : OrcG Tryz.prog F) : OrcG Tryz.prog (e221 F) := x221_ok r221_ok h
def F313 : Orc := or0
theorem F313_ok : OrcG Tryz.prog F313 := or0_g
abbrev E313 : Type := Int
def d313 : Td 0 E313 := .c [] [2] (.r 0 0 (ec 2 (qi .i64) en) sn (fun z => z.1.1) (fun x => ((x, ()), (()))) fun _ => rfl)
def A313 := (lc (qi .i64) ln)
def an313 : An := .no
theorem fa313 : FnAn Tryz.prog (F313) 0 300 313 (an313) := fnAn_of (l := []) Tryz.func313 (bodyOf_eq (by kernel_rfl)) (by kernel_rfl) ob_nil
def m313 (a0 : Int) : E313 :=
 bif decide (a0 < 0) then i64.wrap (0 - a0) else a0
theorem c313 (a0 : Int) : callR Tryz.prog (F313) 300 (an313) 313 (A313.c (a0, ())) [] 0 d313.rd = some (m313 a0) := by
 refine Eq.trans (b := (
  bif decide (a0 < 0) then some (i64.wrap (0 - a0)) else some (a0) : Option E313)) (by kernel_rfl) ?_
 simp only [m313, cond_some, ite_some]
def e313 : Orc → Orc := eL Tryz.prog 313 false A313 d313 (fun g => some (m313 g.1))
theorem e313_ok {F : Orc} (h : OrcG Tryz.prog F) : OrcG Tryz.prog (e313 F) := eL_ok (sc := scU) scU_ok (hl_of F313_ok fa313 (fun _ => by kernel_rfl) (fun _ => by kernel_rfl) fun g => c313 g.1) ⟨_, Tryz.func313, by kernel_rfl, by kernel_rfl⟩ (fun _ => by kernel_rfl) (fun _ => by kernel_rfl) h
def F314 : Orc := (e175 (e174 or0))
theorem F314_ok : OrcG Tryz.prog F314 := (e175_ok (e174_ok or0_g))
abbrev E314 : Type := Int × Int
def d314 : Td 0 E314 := .c [] [4, 5] (.r 0 0 (ec 4 (qi .i64) (ec 5 (qi .i64) en)) sn (fun z => (z.1.1, z.1.2.1)) (fun x => ((x.1, x.2, ()), (()))) fun _ => rfl)
def A314 := (lc (qi .i64) (lc (qi .i64) ln))
def an314 : An := .no
theorem fa314 : FnAn Tryz.prog (F314) 0 300 314 (an314) := fnAn_of (l := []) Tryz.func314 (bodyOf_eq (by kernel_rfl)) (by kernel_rfl) ob_nil
def m314 (a0 : Int) (a1 : Int) : E314 :=
 bif decide (a0 < 0) then bif decide (0 < a1) then (m175 (0) (i64.wrap (a0 + 1)), m174 (0) (i64.wrap (a1 - 1))) else (m175 (0) (i64.wrap (a0 + 1)), 0) else bif decide (0 < a1) then (0, m174 (0) (i64.wrap (a1 - 1))) else (0, 0)
theorem c314 (a0 : Int) (a1 : Int) : callR Tryz.prog (F314) 300 (an314) 314 (A314.c (a0, a1, ())) [] 0 d314.rd = some (m314 a0 a1) := by
 refine Eq.trans (b := (
  bif decide (a0 < 0) then bif decide (0 < a1) then some ((m175 (0) (i64.wrap (a0 + 1)), m174 (0) (i64.wrap (a1 - 1)))) else some ((m175 (0) (i64.wrap (a0 + 1)), 0)) else bif decide (0 < a1) then some ((0, m174 (0) (i64.wrap (a1 - 1)))) else some ((0, 0)) : Option E314)) (by kernel_rfl) ?_
 simp only [m314, cond_some, ite_some]
def e314 : Orc → Orc := eL Tryz.prog 314 false A314 d314 (fun g => some (m314 g.1 g.2.1))
theorem e314_ok {F : Orc} (h : OrcG Tryz.prog F) : OrcG Tryz.prog (e314 F) := eL_ok (sc := scU) scU_ok (hl_of F314_ok fa314 (fun _ => by kernel_rfl) (fun _ => by kernel_rfl) fun g => c314 g.1 g.2.1) ⟨_, Tryz.func314, by kernel_rfl, by kernel_rfl⟩ (fun _ => by kernel_rfl) (fun _ => by kernel_rfl) h
def F271 : Orc := (e314 (e313 (e175 (e174 or0))))
theorem F271_ok : OrcG Tryz.prog F271 := (e314_ok (e313_ok (e175_ok (e174_ok or0_g))))
structure L271_0 where
 t2 : List Int
 t3 : List Int
 t15 : Int
 t16 : Int
 t17 : Int
def d271_0 : Td 0 L271_0 := .c [] [2, 3, 15, 16, 17] (.r 0 0 (ec 2 (ql 3) (ec 3 (ql 3) (ec 15 (qi .i64) (ec 16 (qi .i64) (ec 17 (qi .i64) en))))) sn (fun z => ⟨z.1.1, z.1.2.1, z.1.2.2.1, z.1.2.2.2.1, z.1.2.2.2.2.1⟩) (fun x => ((x.t2, x.t3, x.t15, x.t16, x.t17, ()), (()))) fun _ => rfl)
def n271_0 (p : L271_0) : Option (Option L271_0) :=
 bif decide (p.t17 < (↑p.t2.length : Int)) then if (0 : Int) ≤ p.t17 ∧ p.t17 < (↑p.t2.length : Int) then if (0 : Int) ≤ p.t17 ∧ p.t17 < (↑p.t3.length : Int) then some (some (L271_0.mk p.t2 p.t3 (m175 p.t15 p.t2[p.t17.toNat]!) (m174 p.t16 p.t3[p.t17.toNat]!) (i64.wrap (p.t17 + 1)))) else none else none else some (none)
theorem q271_0 (p : L271_0) : execA Tryz.prog (F271) Tryz.f271.ntmps 300 (loopAt Tryz.f271 0) .no (Option L271_0) (d271_0.pat p) (kOn d271_0.rd) = n271_0 p := by kernel_rfl
def a271_0 : L271_0 → Option L271_0 := advG (n271_0)
abbrev E271 : Type := Int × Int
def d271 : Td 0 E271 := .c [] [8, 9] (.r 0 0 (ec 8 (qi .i64) (ec 9 (qi .i64) en)) sn (fun z => (z.1.1, z.1.2.1)) (fun x => ((x.1, x.2, ()), (()))) fun _ => rfl)
def A271 := (lc (ql 131) (lc (qg 137) (lc (ql 3) (lc (ql 3) ln))))
def an271 : An := (.two .no (.two (.two .no (.two .no (.two (.two (.two (.rb [] 29) .no) .no) (.two .no (.two .no (.two .no (.two .no (.two .no (.two .no (.two .no (.two .no (.two .no (.two .no (.two .no (.two (.two .no (.two (.two (.rb [] 154) .no) .no)) (.two .no (.two .no (.two .no (.two .no (.two .no (.two .no (.two .no (.two (.two .no (.two (.two .no (d271_0.lp a271_0 .no)) .no)) .no))))))))))))))))))))))) .no))
theorem pu271  : ∀ f ∈ ([] : List Nat), PureF (F271) f := ob_nil
theorem fa271 : FnAn Tryz.prog (F271) 0 300 271 (an271) := fnAn_of (l := [(.skip, (.rb [] 29)), (.skip, (.rb [] 154)), (loopAt Tryz.f271 0, (d271_0.lp a271_0 .no))]) Tryz.func271 (bodyOf_eq (by kernel_rfl)) (by kernel_rfl) (ob_cons pu271 (ob_cons pu271 (ob_cons ⟨d271_0.ok _, advG_ok (q271_0)⟩ ob_nil)))
def m271 (a0 : List GVar) (a1 : GTerm) (a2 : List Int) (a3 : List Int) : Option E271 :=
 bif decide (a1.fOp = 0) then match bif decide (a1.fN < -1048576) then some (true) else some (decide (1048576 < a1.fN)) with | none => none | some r1 => bif r1 then some ((-1048577, 1048577)) else some ((a1.fN, a1.fN)) else bif decide (a1.fOp = 24) then if (0 : Int) ≤ a1.fN ∧ a1.fN < (↑a0.length : Int) then if (0 : Int) ≤ a1.fN ∧ a1.fN < (↑a0.length : Int) then some ((a0[a1.fN.toNat]!.fLow, a0[a1.fN.toNat]!.fHigh)) else none else none else bif decide (a1.fOp = 6) then if (0 : Int) ≤ (0 : Int) ∧ (0 : Int) < (↑a3.length : Int) then if (0 : Int) ≤ (0 : Int) ∧ (0 : Int) < (↑a2.length : Int) then some ((i64.wrap (0 - a3[0]!), i64.wrap (0 - a2[0]!))) else none else none else bif decide (a1.fOp = 8) then if (0 : Int) ≤ (0 : Int) ∧ (0 : Int) < (↑a2.length : Int) then if (0 : Int) ≤ (1 : Int) ∧ (1 : Int) < (↑a2.length : Int) then if (0 : Int) ≤ (0 : Int) ∧ (0 : Int) < (↑a3.length : Int) then if (0 : Int) ≤ (1 : Int) ∧ (1 : Int) < (↑a3.length : Int) then some ((i64.wrap (a2[0]! + a2[1]!), i64.wrap (a3[0]! + a3[1]!))) else none else none else none else none else bif decide (a1.fOp = 9) then if (0 : Int) ≤ (0 : Int) ∧ (0 : Int) < (↑a2.length : Int) then if (0 : Int) ≤ (1 : Int) ∧ (1 : Int) < (↑a3.length : Int) then if (0 : Int) ≤ (0 : Int) ∧ (0 : Int) < (↑a3.length : Int) then if (0 : Int) ≤ (1 : Int) ∧ (1 : Int) < (↑a2.length : Int) then some ((i64.wrap (a2[0]! - a3[1]!), i64.wrap (a3[0]! - a2[1]!))) else none else none else none else none else bif decide (a1.fOp = 10) then if (0 : Int) ≤ (0 : Int) ∧ (0 : Int) < (↑a2.length : Int) then if (0 : Int) ≤ (1 : Int) ∧ (1 : Int) < (↑a2.length : Int) then if (0 : Int) ≤ (0 : Int) ∧ (0 : Int) < (↑a2.length : Int) then if (0 : Int) ≤ (1 : Int) ∧ (1 : Int) < (↑a3.length : Int) then if (0 : Int) ≤ (0 : Int) ∧ (0 : Int) < (↑a3.length : Int) then if (0 : Int) ≤ (1 : Int) ∧ (1 : Int) < (↑a2.length : Int) then if (0 : Int) ≤ (0 : Int) ∧ (0 : Int) < (↑a3.length : Int) then if (0 : Int) ≤ (1 : Int) ∧ (1 : Int) < (↑a3.length : Int) then some ((m175 (m175 (i64.wrap (a2[0]! * a2[1]!)) (i64.wrap (a2[0]! * a3[1]!))) (m175 (i64.wrap (a3[0]! * a2[1]!)) (i64.wrap (a3[0]! * a3[1]!))), m174 (m174 (i64.wrap (a2[0]! * a2[1]!)) (i64.wrap (a2[0]! * a3[1]!))) (m174 (i64.wrap (a3[0]! * a2[1]!)) (i64.wrap (a3[0]! * a3[1]!))))) else none else none else none else none else none else none else none else none else bif decide (a1.fOp = 11) then if (0 : Int) ≤ (0 : Int) ∧ (0 : Int) < (↑a2.length : Int) then if (0 : Int) ≤ (0 : Int) ∧ (0 : Int) < (↑a3.length : Int) then match if (0 : Int) ≤ (0 : Int) ∧ (0 : Int) < (↑a2.length : Int) then bif decide (0 ≤ a2[Int.toNat 0]!) then if (0 : Int) ≤ (1 : Int) ∧ (1 : Int) < (↑a2.length : Int) then some (decide (0 ≤ a2[Int.toNat 1]!)) else none else some (false) else none with | none => none | some r2 => bif r2 then some ((0, m174 (m313 a2[0]!) (m313 a3[0]!))) else some ((i64.wrap (0 - m174 (m313 a2[0]!) (m313 a3[0]!)), m174 (m313 a2[0]!) (m313 a3[0]!))) else none else none else bif decide (a1.fOp = 12) then if (0 : Int) ≤ (1 : Int) ∧ (1 : Int) < (↑a2.length : Int) then if (0 : Int) ≤ (1 : Int) ∧ (1 : Int) < (↑a3.length : Int) then some (m314 a2[1]! a3[1]!) else none else none else bif decide (a1.fOp = 21) then if (0 : Int) ≤ (0 : Int) ∧ (0 : Int) < (↑a2.length : Int) then if (0 : Int) ≤ (1 : Int) ∧ (1 : Int) < (↑a2.length : Int) then if (0 : Int) ≤ (0 : Int) ∧ (0 : Int) < (↑a3.length : Int) then if (0 : Int) ≤ (1 : Int) ∧ (1 : Int) < (↑a3.length : Int) then some ((m175 a2[0]! a2[1]!, m175 a3[0]! a3[1]!)) else none else none else none else none else bif decide (a1.fOp = 22) then if (0 : Int) ≤ (0 : Int) ∧ (0 : Int) < (↑a2.length : Int) then if (0 : Int) ≤ (1 : Int) ∧ (1 : Int) < (↑a2.length : Int) then if (0 : Int) ≤ (0 : Int) ∧ (0 : Int) < (↑a3.length : Int) then if (0 : Int) ≤ (1 : Int) ∧ (1 : Int) < (↑a3.length : Int) then some ((m174 a2[0]! a2[1]!, m174 a3[0]! a3[1]!)) else none else none else none else none else bif decide (a1.fOp = 23) then if (0 : Int) ≤ (1 : Int) ∧ (1 : Int) < (↑a2.length : Int) then if (0 : Int) ≤ (1 : Int) ∧ (1 : Int) < (↑a3.length : Int) then match a271_0 (L271_0.mk a2 a3 a2[1]! a3[1]! (2)) with | none => none | some r3 => bif decide (r3.t17 < (↑r3.t2.length : Int)) then if (0 : Int) ≤ r3.t17 ∧ r3.t17 < (↑r3.t2.length : Int) then if (0 : Int) ≤ r3.t17 ∧ r3.t17 < (↑r3.t3.length : Int) then none else none else none else some ((r3.t15, r3.t16)) else none else none else bif decide (a1.fOp = 25) then if (0 : Int) ≤ (1 : Int) ∧ (1 : Int) < (↑a2.length : Int) then if (0 : Int) ≤ (1 : Int) ∧ (1 : Int) < (↑a3.length : Int) then match a271_0 (L271_0.mk a2 a3 a2[1]! a3[1]! (2)) with | none => none | some r4 => bif decide (r4.t17 < (↑r4.t2.length : Int)) then if (0 : Int) ≤ r4.t17 ∧ r4.t17 < (↑r4.t2.length : Int) then if (0 : Int) ≤ r4.t17 ∧ r4.t17 < (↑r4.t3.length : Int) then none else none else none else some ((r4.t15, r4.t16)) else none else none else some ((0, 1))
theorem c271 (a0 : List GVar) (a1 : GTerm) (a2 : List Int) (a3 : List Int) : callR Tryz.prog (F271) 300 (an271) 271 (A271.c (a0, a1, a2, a3, ())) [] 0 d271.rd = m271 a0 a1 a2 a3 := by kernel_rfl
def e271 : Orc → Orc := eL Tryz.prog 271 false A271 d271 (fun g => m271 g.1 g.2.1 g.2.2.1 g.2.2.2.1)
theorem e271_ok {F : Orc} (h : OrcG Tryz.prog F) : OrcG Tryz.prog (e271 F) := eL_ok (sc := scU) scU_ok (hl_of F271_ok fa271 (fun _ => by kernel_rfl) (fun _ => by kernel_rfl) fun g => c271 g.1 g.2.1 g.2.2.1 g.2.2.2.1) ⟨_, Tryz.func271, by kernel_rfl, by kernel_rfl⟩ (fun _ => by kernel_rfl) (fun _ => by kernel_rfl) h
abbrev E222 : Type := Int × Int × Bool
def d222 : Td 0 E222 := .c [] [4, 5, 6] (.r 0 0 (ec 4 (qi .i64) (ec 5 (qi .i64) (ec 6 qb en))) sn (fun z => (z.1.1, z.1.2.1, z.1.2.2.1)) (fun x => ((x.1, x.2.1, x.2.2, ()), (()))) fun _ => rfl)
def A222 := (lc (ql 131) (lc (qg 137) ln))
def x222 (M : (List GVar) → GTerm → Option E222) : Orc → Orc := eL Tryz.prog 222 false A222 d222 (fun g => M g.1 g.2.1)
def H222 (M : (List GVar) → GTerm → Option E222) : Prop := HL Tryz.prog 222 A222 d222 (fun g => M g.1 g.2.1)
theorem x222_ok {M : (List GVar) → GTerm → Option E222} (hM : H222 M) {F : Orc} (h : OrcG Tryz.prog F) : OrcG Tryz.prog (x222 M F) := eL_ok (sc := scU) scU_ok hM ⟨_, Tryz.func222, by kernel_rfl, by kernel_rfl⟩ (fun _ => by kernel_rfl) (fun _ => by kernel_rfl) h
def F222 (M222 : (List GVar) → GTerm → Option E222) : Orc := (e271 (x222 M222 or0))
theorem F222_ok {M222} (h222 : H222 M222) : OrcG Tryz.prog (F222 M222) := (e271_ok (x222_ok h222 or0_g))
structure L222_0 where
 t0 : List GVar
 t7 : List Int
 t8 : List Int
 t9 : Int
 b0 : GTerm
def d222_0 : Td 0 L222_0 := .c [] [0, 3, 7, 8, 9] (.r 0 3 (ec 0 (ql 131) (ec 3 (qp 0 0) (ec 7 (qo 1) (ec 8 (qo 2) (ec 9 (qi .i64) en))))) (sb 0 137 (lg 137) (sr 1 3 (sr 2 3 sn))) (fun z => ⟨z.1.1, z.2.2.1, z.2.2.2.1, z.1.2.2.2.2.1, z.2.1⟩) (fun x => ((x.t0, (), (), (), x.t9, ()), (x.b0, x.t7, x.t8, ()))) fun _ => rfl)
def n222_0 (M222 : (List GVar) → GTerm → Option E222) (p : L222_0) : Option (Option L222_0) :=
 bif decide (p.t9 < (↑p.b0.fKids.length : Int)) then if (0 : Int) ≤ p.t9 ∧ p.t9 < (↑p.b0.fKids.length : Int) then match M222 p.t0 (GTerm.mk p.b0.fKids[p.t9.toNat]!.fOp p.b0.fKids[p.t9.toNat]!.fN p.b0.fKids[p.t9.toNat]!.fKids) with | none => none | some r1 => bif bif r1.snd.snd then false else true then some (none) else if (p.t7 ++ [r1.fst]).length ≤ 1073741824 then if (p.t8 ++ [r1.snd.fst]).length ≤ 1073741824 then some (some (L222_0.mk p.t0 (p.t7 ++ [r1.fst]) (p.t8 ++ [r1.snd.fst]) (i64.wrap (p.t9 + 1)) (GTerm.mk p.b0.fOp p.b0.fN p.b0.fKids))) else none else none else none else some (none)
theorem q222_0 (M222 : (List GVar) → GTerm → Option E222) (p : L222_0) : execA Tryz.prog (F222 M222) Tryz.f222.ntmps 300 (loopAt Tryz.f222 0) .no (Option L222_0) (d222_0.pat p) (kOn d222_0.rd) = n222_0 M222 p := by kernel_rfl
def a222_0 (M222 : (List GVar) → GTerm → Option E222) : L222_0 → Option L222_0 := advG (n222_0 M222)
def an222 (M222 : (List GVar) → GTerm → Option E222) : An := (.two .no (.two .no (.two .no (.two (.two .no (d222_0.lp (a222_0 M222) .no)) .no))))
theorem fa222 (M222 : (List GVar) → GTerm → Option E222) : FnAn Tryz.prog (F222 M222) 0 300 222 (an222 M222) := fnAn_of (l := [(loopAt Tryz.f222 0, (d222_0.lp (a222_0 M222) .no))]) Tryz.func222 (bodyOf_eq (by kernel_rfl)) (by kernel_rfl) (ob_cons ⟨d222_0.ok _, advG_ok (q222_0 M222)⟩ ob_nil)
def s222 (M222 : (List GVar) → GTerm → Option E222) (a0 : List GVar) (a1 : GTerm) : Option E222 :=
 match a222_0 M222 (L222_0.mk a0 [] [] (0) (GTerm.mk a1.fOp a1.fN a1.fKids)) with | none => none | some r2 => bif decide (r2.t9 < (↑r2.b0.fKids.length : Int)) then if (0 : Int) ≤ r2.t9 ∧ r2.t9 < (↑r2.b0.fKids.length : Int) then match M222 r2.t0 (GTerm.mk r2.b0.fKids[r2.t9.toNat]!.fOp r2.b0.fKids[r2.t9.toNat]!.fN r2.b0.fKids[r2.t9.toNat]!.fKids) with | none => none | some r3 => bif bif r3.snd.snd then false else true then some ((0, 0, false)) else if (r2.t7 ++ [r3.fst]).length ≤ 1073741824 then if (r2.t8 ++ [r3.snd.fst]).length ≤ 1073741824 then none else none else none else none else match m271 r2.t0 (GTerm.mk r2.b0.fOp r2.b0.fN r2.b0.fKids) r2.t7 r2.t8 with | none => none | some r4 => bif decide (-1048576 ≤ r4.fst) then some ((r4.fst, r4.snd, decide (r4.snd ≤ 1048576))) else some ((r4.fst, r4.snd, false))
theorem c222 (M222 : (List GVar) → GTerm → Option E222) (a0 : List GVar) (a1 : GTerm) : callR Tryz.prog (F222 M222) 300 (an222 M222) 222 (A222.c (a0, a1, ())) [] 0 d222.rd = s222 M222 a0 a1 := by kernel_rfl
def mm222 : Nat → ((List GVar) → GTerm → Option E222)
 | 0 => (fun _ _ => none)
 | n + 1 => (s222 (mm222 n))
def m222 (n : Nat) : (List GVar) → GTerm → Option E222 := (mm222 n)
theorem mm222_ok : ∀ n, H222 (m222 n)
 | 0 => fun _ _ h => (by cases h)
 | n + 1 => by
  have ih := mm222_ok n
  have i222 := ih
  exact (hl_of (F222_ok i222) (fa222 (m222 n)) (fun _ => by kernel_rfl) (fun _ => by kernel_rfl) fun g => c222 (m222 n) g.1 g.2.1)
def r222 : (List GVar) → GTerm → Option E222 := fun a0 a1 => lim (fun n => m222 n a0 a1)
theorem r222_ok : H222 r222 := fun g b h => by
 obtain ⟨n, hn⟩ := lim_some (show lim (fun n => m222 n g.1 g.2.1) = some b from h)
 exact (mm222_ok n) g b hn
def e222 (F : Orc) : Orc := x222 r222 F
theorem e222_ok {F : Orc} (h : OrcG Tryz.prog F) : OrcG Tryz.prog (e222 F) := x222_ok r222_ok h
def F142 : Orc := (e222 (e221 or0))
theorem F142_ok : OrcG Tryz.prog F142 := (e222_ok (e221_ok or0_g))
abbrev E142 : Type := Int
def d142 : Td 0 E142 := .c [] [6] (.r 0 0 (ec 6 (qi .i64) en) sn (fun z => z.1.1) (fun x => ((x, ()), (()))) fun _ => rfl)
def A142 := (lc (ql 131) (lc (qg 137) (lc qb ln)))
def an142 : An := .no
theorem fa142 : FnAn Tryz.prog (F142) 0 300 142 (an142) := fnAn_of (l := []) Tryz.func142 (bodyOf_eq (by kernel_rfl)) (by kernel_rfl) ob_nil
def m142 (a0 : List GVar) (a1 : GTerm) (a2 : Bool) : Option E142 :=
 match r221 a0 (GTerm.mk a1.fOp a1.fN a1.fKids) a2 with | none => none | some r1 => bif bif r1 then false else true then some (1) else match r222 a0 (GTerm.mk a1.fOp a1.fN a1.fKids) with | none => none | some r2 => bif bif r2.snd.snd then false else true then some (3) else some (0)
theorem c142 (a0 : List GVar) (a1 : GTerm) (a2 : Bool) : callR Tryz.prog (F142) 300 (an142) 142 (A142.c (a0, a1, a2, ())) [] 0 d142.rd = m142 a0 a1 a2 := by kernel_rfl
def e142 : Orc → Orc := eL Tryz.prog 142 false A142 d142 (fun g => m142 g.1 g.2.1 g.2.2.1)
theorem e142_ok {F : Orc} (h : OrcG Tryz.prog F) : OrcG Tryz.prog (e142 F) := eL_ok (sc := scU) scU_ok (hl_of F142_ok fa142 (fun _ => by kernel_rfl) (fun _ => by kernel_rfl) fun g => c142 g.1 g.2.1 g.2.2.1) ⟨_, Tryz.func142, by kernel_rfl, by kernel_rfl⟩ (fun _ => by kernel_rfl) (fun _ => by kernel_rfl) h
theorem e142_pure {F : Orc} {f : Nat} (h : PureF F f) : PureF (e142 F) f := orL_pure h (fun _ => by kernel_rfl)
def F272 : Orc := or0
theorem F272_ok : OrcG Tryz.prog F272 := or0_g
abbrev E272 : Type := Bool
def d272 : Td 0 E272 := .c [] [2] (.r 0 0 (ec 2 qb en) sn (fun z => z.1.1) (fun x => ((x, ()), (()))) fun _ => rfl)
def A272 := (lc (qg 137) ln)
def an272 : An := (.two .no (.two (.rb [] 2) .no))
theorem pu272  : ∀ f ∈ ([] : List Nat), PureF (F272) f := ob_nil
theorem fa272 : FnAn Tryz.prog (F272) 0 300 272 (an272) := fnAn_of (l := [(.skip, (.rb [] 2))]) Tryz.func272 (bodyOf_eq (by kernel_rfl)) (by kernel_rfl) (ob_cons pu272 ob_nil)
def m272 (a0 : GTerm) : E272 :=
 let r1 : Bool := bif decide (a0.fOp = 0) then bif decide (a0.fN = 0) then decide ((↑a0.fKids.length : Int) = 0) else false else false; r1
theorem c272 (a0 : GTerm) : callR Tryz.prog (F272) 300 (an272) 272 (A272.c (a0, ())) [] 0 d272.rd = some (m272 a0) := by
 refine Eq.trans (b := (
  match bif decide (a0.fOp = 0) then bif decide (a0.fN = 0) then some (decide ((↑a0.fKids.length : Int) = 0)) else some (false) else some (false) with | none => none | some r1 => some (r1) : Option E272)) (by kernel_rfl) ?_
 simp only [m272, cond_some, ite_some]
def e272 : Orc → Orc := eL Tryz.prog 272 false A272 d272 (fun g => some (m272 g.1))
theorem e272_ok {F : Orc} (h : OrcG Tryz.prog F) : OrcG Tryz.prog (e272 F) := eL_ok (sc := scU) scU_ok (hl_of F272_ok fa272 (fun _ => by kernel_rfl) (fun _ => by kernel_rfl) fun g => c272 g.1) ⟨_, Tryz.func272, by kernel_rfl, by kernel_rfl⟩ (fun _ => by kernel_rfl) (fun _ => by kernel_rfl) h
theorem e272_pure {F : Orc} {f : Nat} (h : PureF F f) : PureF (e272 F) f := orL_pure h (fun _ => by kernel_rfl)
def F273 : Orc := or0
theorem F273_ok : OrcG Tryz.prog F273 := or0_g
structure L273_0 where
 t0 : List Int
 t3 : Int
def d273_0 : Td 0 L273_0 := .c [] [0, 3] (.r 0 0 (ec 0 (ql 3) (ec 3 (qi .i64) en)) sn (fun z => ⟨z.1.1, z.1.2.1⟩) (fun x => ((x.t0, x.t3, ()), (()))) fun _ => rfl)
def n273_0 (p : L273_0) : Option (Option L273_0) :=
 bif decide (p.t3 < (↑p.t0.length : Int)) then if (0 : Int) ≤ p.t3 ∧ p.t3 < (↑p.t0.length : Int) then if (0 : Int) ≤ i64.wrap (p.t3 - (1 : Int)) ∧ i64.wrap (p.t3 - (1 : Int)) < (↑p.t0.length : Int) then bif decide (((p.t0, p.t3, ()), ()).fst.fst[((p.t0, p.t3, ()), ()).fst.snd.fst.toNat]! ≤ ((p.t0, p.t3, ()), ()).fst.fst[(i64.wrap (((p.t0, p.t3, ()), ()).fst.snd.fst - 1)).toNat]!) then some (none) else some (some (L273_0.mk p.t0 (i64.wrap (p.t3 + 1)))) else none else none else some (none)
theorem q273_0 (p : L273_0) : execA Tryz.prog (F273) Tryz.f273.ntmps 300 (loopAt Tryz.f273 0) .no (Option L273_0) (d273_0.pat p) (kOn d273_0.rd) = n273_0 p := by kernel_rfl
def a273_0 : L273_0 → Option L273_0 := advG (n273_0)
abbrev E273 : Type := Bool
def d273 : Td 0 E273 := .c [] [2] (.r 0 0 (ec 2 qb en) sn (fun z => z.1.1) (fun x => ((x, ()), (()))) fun _ => rfl)
def A273 := (lc (ql 3) ln)
def an273 : An := (.two .no (.two (.two (.rb [] 17) .no) (.two (.two .no (d273_0.lp a273_0 .no)) .no)))
theorem pu273  : ∀ f ∈ ([] : List Nat), PureF (F273) f := ob_nil
theorem fa273 : FnAn Tryz.prog (F273) 0 300 273 (an273) := fnAn_of (l := [(.skip, (.rb [] 17)), (loopAt Tryz.f273 0, (d273_0.lp a273_0 .no))]) Tryz.func273 (bodyOf_eq (by kernel_rfl)) (by kernel_rfl) (ob_cons pu273 (ob_cons ⟨d273_0.ok _, advG_ok (q273_0)⟩ ob_nil))
def m273 (a0 : List Int) : Option E273 :=
 match bif decide ((↑a0.length : Int) < 1) then some (true) else bif decide (32 < (↑a0.length : Int)) then some (true) else if (0 : Int) ≤ (0 : Int) ∧ (0 : Int) < (↑a0.length : Int) then some (decide (a0[Int.toNat 0]! < 0)) else none with | none => none | some r1 => bif r1 then some (false) else match a273_0 (L273_0.mk a0 (1)) with | none => none | some r2 => bif decide (r2.t3 < (↑r2.t0.length : Int)) then if (0 : Int) ≤ r2.t3 ∧ r2.t3 < (↑r2.t0.length : Int) then if (0 : Int) ≤ i64.wrap (r2.t3 - (1 : Int)) ∧ i64.wrap (r2.t3 - (1 : Int)) < (↑r2.t0.length : Int) then bif decide (((r2.t0, r2.t3, ()), ()).fst.fst[((r2.t0, r2.t3, ()), ()).fst.snd.fst.toNat]! ≤ ((r2.t0, r2.t3, ()), ()).fst.fst[(i64.wrap (((r2.t0, r2.t3, ()), ()).fst.snd.fst - 1)).toNat]!) then some (false) else none else none else none else some (true)
theorem c273 (a0 : List Int) : callR Tryz.prog (F273) 300 (an273) 273 (A273.c (a0, ())) [] 0 d273.rd = m273 a0 := by kernel_rfl
def e273 : Orc → Orc := eL Tryz.prog 273 false A273 d273 (fun g => m273 g.1)
theorem e273_ok {F : Orc} (h : OrcG Tryz.prog F) : OrcG Tryz.prog (e273 F) := eL_ok (sc := scU) scU_ok (hl_of F273_ok fa273 (fun _ => by kernel_rfl) (fun _ => by kernel_rfl) fun g => c273 g.1) ⟨_, Tryz.func273, by kernel_rfl, by kernel_rfl⟩ (fun _ => by kernel_rfl) (fun _ => by kernel_rfl) h
theorem e273_pure {F : Orc} {f : Nat} (h : PureF F f) : PureF (e273 F) f := orL_pure h (fun _ => by kernel_rfl)
def F223 : Orc := (e273 (e272 or0))
theorem F223_ok : OrcG Tryz.prog F223 := (e273_ok (e272_ok or0_g))
abbrev E223 : Type := Bool
def d223 : Td 0 E223 := .c [] [6] (.r 0 0 (ec 6 qb en) sn (fun z => z.1.1) (fun x => ((x, ()), (()))) fun _ => rfl)
def A223 := (lc (qg 26) (lc (qg 166) (lc qb ln)))
def an223 : An := (.two .no (.two (.rb [272, 273] 7) (.two (.rb [272, 273] 8) (.two (.two .no (.two .no (.two (.two (.rb [272, 273] 6) .no) (.two .no (.two (.two (.rb [272, 273] 6) .no) (.two .no (.two (.two (.rb [272, 273] 6) .no) (.two .no (.two (.two (.rb [272, 273] 6) .no) (.two .no (.two (.two (.rb [272, 273] 6) .no) (.two .no (.two (.two (.rb [272, 273] 6) .no) (.two .no (.two (.two (.rb [272, 273] 6) .no) .no))))))))))))))) .no))))
theorem pu223  : ∀ f ∈ ([272, 273] : List Nat), PureF (F223) f := (ob_cons (e273_pure (e272_pure or0_pure)) (ob_cons (e273_pure (e272_pure or0_pure)) ob_nil))
theorem fa223 : FnAn Tryz.prog (F223) 0 300 223 (an223) := fnAn_of (l := [(.skip, (.rb [272, 273] 7)), (.skip, (.rb [272, 273] 8)), (.skip, (.rb [272, 273] 6)), (.skip, (.rb [272, 273] 6)), (.skip, (.rb [272, 273] 6)), (.skip, (.rb [272, 273] 6)), (.skip, (.rb [272, 273] 6)), (.skip, (.rb [272, 273] 6)), (.skip, (.rb [272, 273] 6))]) Tryz.func223 (bodyOf_eq (by kernel_rfl)) (by kernel_rfl) (ob_cons pu223 (ob_cons pu223 (ob_cons pu223 (ob_cons pu223 (ob_cons pu223 (ob_cons pu223 (ob_cons pu223 (ob_cons pu223 (ob_cons pu223 ob_nil)))))))))
def m223 (a0 : Flat) (a1 : GStep) (a2 : Bool) : Option E223 :=
 match bif decide ((↑a1.fThen.length : Int) = 0) then some (decide ((↑a1.fElse.length : Int) = 0)) else some (false) with | none => none | some r1 => match bif decide (0 ≤ a1.fVar) then bif decide (a1.fVar < (↑a0.fVars.length : Int)) then if (0 : Int) ≤ a1.fVar ∧ a1.fVar < (↑a0.fVars.length : Int) then some (decide (a0.fVars[a1.fVar.toNat]!.fKind = 0)) else none else some (false) else some (false) with | none => none | some r2 => bif decide (a1.fDo = 0) then match bif r1 then bif r2 then bif decide (a1.fN = 0) then some (decide ((↑a1.fBounds.length : Int) = 0)) else some (false) else some (false) else some (false) with | none => none | some r3 => some (r3) else bif decide (a1.fDo = 1) then match bif r1 then bif decide (a1.fVar = 0) then bif decide (a1.fN = 0) then some (decide ((↑a1.fBounds.length : Int) = 0)) else some (false) else some (false) else some (false) with | none => none | some r4 => some (r4) else bif decide (a1.fDo = 2) then match bif r1 then bif decide (a1.fVar = 0) then bif decide (a1.fN = 0) then bif decide ((↑a1.fBounds.length : Int) = 0) then some (m272 (GTerm.mk a1.fTerm.fOp a1.fTerm.fN a1.fTerm.fKids)) else some (false) else some (false) else some (false) else some (false) with | none => none | some r5 => some (r5) else bif decide (a1.fDo = 3) then match bif decide (a1.fVar = 0) then bif decide (a1.fN = 0) then some (decide ((↑a1.fBounds.length : Int) = 0)) else some (false) else some (false) with | none => none | some r6 => some (r6) else bif decide (a1.fDo = 4) then match bif decide (a1.fVar = 0) then bif decide ((↑a1.fElse.length : Int) = 0) then some (decide ((↑a1.fBounds.length : Int) = 0)) else some (false) else some (false) with | none => none | some r7 => some (r7) else bif decide (a1.fDo = 5) then match bif r1 then bif r2 then bif decide (0 ≤ a1.fN) then bif decide (a1.fN < (↑a0.fHatches.length : Int)) then bif decide ((↑a1.fBounds.length : Int) = 0) then some (m272 (GTerm.mk a1.fTerm.fOp a1.fTerm.fN a1.fTerm.fKids)) else some (false) else some (false) else some (false) else some (false) else some (false) with | none => none | some r8 => some (r8) else bif decide (a1.fDo = 6) then match bif r1 then bif a2 then bif decide (a1.fVar = 0) then bif decide (a1.fN = 0) then bif m272 (GTerm.mk a1.fTerm.fOp a1.fTerm.fN a1.fTerm.fKids) then match m273 a1.fBounds with | none => none | some r9 => some (r9) else some (false) else some (false) else some (false) else some (false) else some (false) with | none => none | some r10 => some (r10) else some (false)
theorem c223 (a0 : Flat) (a1 : GStep) (a2 : Bool) : callR Tryz.prog (F223) 300 (an223) 223 (A223.c (a0, a1, a2, ())) [] 0 d223.rd = m223 a0 a1 a2 := by kernel_rfl
def e223 : Orc → Orc := eL Tryz.prog 223 false A223 d223 (fun g => m223 g.1 g.2.1 g.2.2.1)
theorem e223_ok {F : Orc} (h : OrcG Tryz.prog F) : OrcG Tryz.prog (e223 F) := eL_ok (sc := scU) scU_ok (hl_of F223_ok fa223 (fun _ => by kernel_rfl) (fun _ => by kernel_rfl) fun g => c223 g.1 g.2.1 g.2.2.1) ⟨_, Tryz.func223, by kernel_rfl, by kernel_rfl⟩ (fun _ => by kernel_rfl) (fun _ => by kernel_rfl) h
theorem e223_pure {F : Orc} {f : Nat} (h : PureF F f) : PureF (e223 F) f := orL_pure h (fun _ => by kernel_rfl)
abbrev E143 : Type := Int
def d143 : Td 0 E143 := .c [] [6] (.r 0 0 (ec 6 (qi .i64) en) sn (fun z => z.1.1) (fun x => ((x, ()), (()))) fun _ => rfl)
def A143 := (lc (qg 26) (lc (ql 166) (lc qb ln)))
def x143 (M : Flat → (List GStep) → Bool → Option E143) : Orc → Orc := eL Tryz.prog 143 false A143 d143 (fun g => M g.1 g.2.1 g.2.2.1)
theorem x143_pure {M : Flat → (List GStep) → Bool → Option E143} {F : Orc} {f : Nat} (h : PureF F f) : PureF (x143 M F) f := orL_pure h (fun _ => by kernel_rfl)
def H143 (M : Flat → (List GStep) → Bool → Option E143) : Prop := HL Tryz.prog 143 A143 d143 (fun g => M g.1 g.2.1 g.2.2.1)
theorem x143_ok {M : Flat → (List GStep) → Bool → Option E143} (hM : H143 M) {F : Orc} (h : OrcG Tryz.prog F) : OrcG Tryz.prog (x143 M F) := eL_ok (sc := scU) scU_ok hM ⟨_, Tryz.func143, by kernel_rfl, by kernel_rfl⟩ (fun _ => by kernel_rfl) (fun _ => by kernel_rfl) h
def F143 (M143 : Flat → (List GStep) → Bool → Option E143) : Orc := (e223 (x143 M143 (e142 or0)))
theorem F143_ok {M143} (h143 : H143 M143) : OrcG Tryz.prog (F143 M143) := (e223_ok (x143_ok h143 (e142_ok or0_g)))
structure L143_0 where
 t1 : List GStep
 t2 : Bool
 t7 : Int
 b0 : Flat
def d143_0 : Td 0 L143_0 := .c [] [1, 2, 3, 7] (.r 0 1 (ec 1 (ql 166) (ec 2 qb (ec 3 (qp 0 0) (ec 7 (qi .i64) en)))) (sb 0 26 (lg 26) sn) (fun z => ⟨z.1.1, z.1.2.1, z.1.2.2.2.1, z.2.1⟩) (fun x => ((x.t1, x.t2, (), x.t7, ()), (x.b0, ()))) fun _ => rfl)
def n143_0 (M143 : Flat → (List GStep) → Bool → Option E143) (p : L143_0) : Option (Option L143_0) :=
 bif decide (p.t7 < (↑p.t1.length : Int)) then if (0 : Int) ≤ p.t7 ∧ p.t7 < (↑p.t1.length : Int) then match bif p.t2 then match m223 p.b0 (GStep.mk p.t1[p.t7.toNat]!.fDo p.t1[p.t7.toNat]!.fCost p.t1[p.t7.toNat]!.fVar p.t1[p.t7.toNat]!.fN (GTerm.mk p.t1[p.t7.toNat]!.fTerm.fOp p.t1[p.t7.toNat]!.fTerm.fN p.t1[p.t7.toNat]!.fTerm.fKids) p.t1[p.t7.toNat]!.fThen p.t1[p.t7.toNat]!.fElse p.t1[p.t7.toNat]!.fBounds) (decide (((p.t1, p.t2, (), p.t7, ()), p.b0, ()).fst.snd.snd.snd.fst = i64.wrap ((↑((p.t1, p.t2, (), p.t7, ()), p.b0, ()).fst.fst.length : Int) - 1))) with | none => none | some r1 => some (bif r1 then false else true) else match m223 p.b0 (GStep.mk p.t1[p.t7.toNat]!.fDo p.t1[p.t7.toNat]!.fCost p.t1[p.t7.toNat]!.fVar p.t1[p.t7.toNat]!.fN (GTerm.mk p.t1[p.t7.toNat]!.fTerm.fOp p.t1[p.t7.toNat]!.fTerm.fN p.t1[p.t7.toNat]!.fTerm.fKids) p.t1[p.t7.toNat]!.fThen p.t1[p.t7.toNat]!.fElse p.t1[p.t7.toNat]!.fBounds) false with | none => none | some r2 => some (bif r2 then false else true) with | none => none | some r3 => bif r3 then some (none) else bif decide (p.t1[p.t7.toNat]!.fDo = 2) then match bif decide (p.t1[p.t7.toNat]!.fCost < 0) then some (true) else bif decide (67108864 < p.t1[p.t7.toNat]!.fCost) then some (true) else bif decide (p.t1[p.t7.toNat]!.fN < 0) then some (true) else bif decide (p.t1[p.t7.toNat]!.fDo = 4) then some (decide (4096 < p.t1[p.t7.toNat]!.fN)) else some (false) with | none => none | some r4 => bif r4 then some (none) else match bif decide (0 < (↑p.t1[p.t7.toNat]!.fBounds.length : Int)) then if (0 : Int) ≤ i64.wrap ((↑p.t1[p.t7.toNat]!.fBounds.length : Int) - (1 : Int)) ∧ i64.wrap ((↑p.t1[p.t7.toNat]!.fBounds.length : Int) - (1 : Int)) < (↑p.t1[p.t7.toNat]!.fBounds.length : Int) then some (decide (67108864 < ((p.t1, p.t2, (), p.t7, ()), p.b0, ()).fst.fst[((p.t1, p.t2, (), p.t7, ()), p.b0, ()).fst.snd.snd.snd.fst.toNat]!.fBounds[(i64.wrap ((↑((p.t1, p.t2, (), p.t7, ()), p.b0, ()).fst.fst[((p.t1, p.t2, (), p.t7, ()), p.b0, ()).fst.snd.snd.snd.fst.toNat]!.fBounds.length : Int) - 1)).toNat]!)) else none else some (false) with | none => none | some r5 => bif r5 then some (none) else match m142 p.b0.fVars (GTerm.mk p.t1[p.t7.toNat]!.fTerm.fOp p.t1[p.t7.toNat]!.fTerm.fN p.t1[p.t7.toNat]!.fTerm.fKids) false with | none => none | some r6 => bif bif decide (r6 = 0) then false else true then some (none) else match M143 p.b0 p.t1[p.t7.toNat]!.fThen false with | none => none | some r7 => bif bif decide (r7 = 0) then false else true then some (none) else match M143 p.b0 p.t1[p.t7.toNat]!.fElse false with | none => none | some r8 => bif bif decide (r8 = 0) then false else true then some (none) else some (some (L143_0.mk p.t1 p.t2 (i64.wrap (p.t7 + 1)) p.b0)) else match bif decide (p.t1[p.t7.toNat]!.fCost < 0) then some (true) else bif decide (10000 < p.t1[p.t7.toNat]!.fCost) then some (true) else bif decide (p.t1[p.t7.toNat]!.fN < 0) then some (true) else bif decide (p.t1[p.t7.toNat]!.fDo = 4) then some (decide (4096 < p.t1[p.t7.toNat]!.fN)) else some (false) with | none => none | some r9 => bif r9 then some (none) else match bif decide (0 < (↑p.t1[p.t7.toNat]!.fBounds.length : Int)) then if (0 : Int) ≤ i64.wrap ((↑p.t1[p.t7.toNat]!.fBounds.length : Int) - (1 : Int)) ∧ i64.wrap ((↑p.t1[p.t7.toNat]!.fBounds.length : Int) - (1 : Int)) < (↑p.t1[p.t7.toNat]!.fBounds.length : Int) then some (decide (67108864 < ((p.t1, p.t2, (), p.t7, ()), p.b0, ()).fst.fst[((p.t1, p.t2, (), p.t7, ()), p.b0, ()).fst.snd.snd.snd.fst.toNat]!.fBounds[(i64.wrap ((↑((p.t1, p.t2, (), p.t7, ()), p.b0, ()).fst.fst[((p.t1, p.t2, (), p.t7, ()), p.b0, ()).fst.snd.snd.snd.fst.toNat]!.fBounds.length : Int) - 1)).toNat]!)) else none else some (false) with | none => none | some r10 => bif r10 then some (none) else match m142 p.b0.fVars (GTerm.mk p.t1[p.t7.toNat]!.fTerm.fOp p.t1[p.t7.toNat]!.fTerm.fN p.t1[p.t7.toNat]!.fTerm.fKids) false with | none => none | some r11 => bif bif decide (r11 = 0) then false else true then some (none) else match M143 p.b0 p.t1[p.t7.toNat]!.fThen false with | none => none | some r12 => bif bif decide (r12 = 0) then false else true then some (none) else match M143 p.b0 p.t1[p.t7.toNat]!.fElse false with | none => none | some r13 => bif bif decide (r13 = 0) then false else true then some (none) else some (some (L143_0.mk p.t1 p.t2 (i64.wrap (p.t7 + 1)) p.b0)) else none else some (none)
def g143_0 (M143 : Flat → (List GStep) → Bool → Option E143) : An := (.two .no (.two (.two .no (.two (.two (.rb [223] 32) .no) (.two .no (.two .no (.two (.two (.rb [223] 59) .no) (.two (.two (.rb [223] 74) .no) .no)))))) .no))
theorem q143_0 (M143 : Flat → (List GStep) → Bool → Option E143) (p : L143_0) : execA Tryz.prog (F143 M143) Tryz.f143.ntmps 300 (loopAt Tryz.f143 0) (g143_0 M143) (Option L143_0) (d143_0.pat p) (kOn d143_0.rd) = n143_0 M143 p := by kernel_rfl
def a143_0 (M143 : Flat → (List GStep) → Bool → Option E143) : L143_0 → Option L143_0 := advG (n143_0 M143)
def an143 (M143 : Flat → (List GStep) → Bool → Option E143) : An := (.two .no (.two (.two .no (d143_0.lp (a143_0 M143) (g143_0 M143))) .no))
theorem pu143 {M143} : ∀ f ∈ ([223] : List Nat), PureF (F143 M143) f := (ob_cons (e223_pure (x143_pure (e142_pure or0_pure))) ob_nil)
theorem fa143 (M143 : Flat → (List GStep) → Bool → Option E143) : FnAn Tryz.prog (F143 M143) 0 300 143 (an143 M143) := fnAn_of (l := [(loopAt Tryz.f143 0, (d143_0.lp (a143_0 M143) (g143_0 M143))), (.skip, (.rb [223] 32)), (.skip, (.rb [223] 59)), (.skip, (.rb [223] 74))]) Tryz.func143 (bodyOf_eq (by kernel_rfl)) (by kernel_rfl) (ob_cons ⟨d143_0.ok _, advG_ok (q143_0 M143)⟩ (ob_cons pu143 (ob_cons pu143 (ob_cons pu143 ob_nil))))
def s143 (M143 : Flat → (List GStep) → Bool → Option E143) (a0 : Flat) (a1 : List GStep) (a2 : Bool) : Option E143 :=
 match a143_0 M143 (L143_0.mk a1 a2 (0) a0) with | none => none | some r14 => bif decide (r14.t7 < (↑r14.t1.length : Int)) then if (0 : Int) ≤ r14.t7 ∧ r14.t7 < (↑r14.t1.length : Int) then match bif r14.t2 then match m223 r14.b0 (GStep.mk r14.t1[r14.t7.toNat]!.fDo r14.t1[r14.t7.toNat]!.fCost r14.t1[r14.t7.toNat]!.fVar r14.t1[r14.t7.toNat]!.fN (GTerm.mk r14.t1[r14.t7.toNat]!.fTerm.fOp r14.t1[r14.t7.toNat]!.fTerm.fN r14.t1[r14.t7.toNat]!.fTerm.fKids) r14.t1[r14.t7.toNat]!.fThen r14.t1[r14.t7.toNat]!.fElse r14.t1[r14.t7.toNat]!.fBounds) (decide (((r14.t1, r14.t2, (), r14.t7, ()), r14.b0, ()).fst.snd.snd.snd.fst = i64.wrap ((↑((r14.t1, r14.t2, (), r14.t7, ()), r14.b0, ()).fst.fst.length : Int) - 1))) with | none => none | some r15 => some (bif r15 then false else true) else match m223 r14.b0 (GStep.mk r14.t1[r14.t7.toNat]!.fDo r14.t1[r14.t7.toNat]!.fCost r14.t1[r14.t7.toNat]!.fVar r14.t1[r14.t7.toNat]!.fN (GTerm.mk r14.t1[r14.t7.toNat]!.fTerm.fOp r14.t1[r14.t7.toNat]!.fTerm.fN r14.t1[r14.t7.toNat]!.fTerm.fKids) r14.t1[r14.t7.toNat]!.fThen r14.t1[r14.t7.toNat]!.fElse r14.t1[r14.t7.toNat]!.fBounds) false with | none => none | some r16 => some (bif r16 then false else true) with | none => none | some r17 => bif r17 then some (1) else bif decide (r14.t1[r14.t7.toNat]!.fDo = 2) then match bif decide (r14.t1[r14.t7.toNat]!.fCost < 0) then some (true) else bif decide (67108864 < r14.t1[r14.t7.toNat]!.fCost) then some (true) else bif decide (r14.t1[r14.t7.toNat]!.fN < 0) then some (true) else bif decide (r14.t1[r14.t7.toNat]!.fDo = 4) then some (decide (4096 < r14.t1[r14.t7.toNat]!.fN)) else some (false) with | none => none | some r18 => bif r18 then some (3) else match bif decide (0 < (↑r14.t1[r14.t7.toNat]!.fBounds.length : Int)) then if (0 : Int) ≤ i64.wrap ((↑r14.t1[r14.t7.toNat]!.fBounds.length : Int) - (1 : Int)) ∧ i64.wrap ((↑r14.t1[r14.t7.toNat]!.fBounds.length : Int) - (1 : Int)) < (↑r14.t1[r14.t7.toNat]!.fBounds.length : Int) then some (decide (67108864 < ((r14.t1, r14.t2, (), r14.t7, ()), r14.b0, ()).fst.fst[((r14.t1, r14.t2, (), r14.t7, ()), r14.b0, ()).fst.snd.snd.snd.fst.toNat]!.fBounds[(i64.wrap ((↑((r14.t1, r14.t2, (), r14.t7, ()), r14.b0, ()).fst.fst[((r14.t1, r14.t2, (), r14.t7, ()), r14.b0, ()).fst.snd.snd.snd.fst.toNat]!.fBounds.length : Int) - 1)).toNat]!)) else none else some (false) with | none => none | some r19 => bif r19 then some (3) else match m142 r14.b0.fVars (GTerm.mk r14.t1[r14.t7.toNat]!.fTerm.fOp r14.t1[r14.t7.toNat]!.fTerm.fN r14.t1[r14.t7.toNat]!.fTerm.fKids) false with | none => none | some r20 => bif bif decide (r20 = 0) then false else true then some (r20) else match M143 r14.b0 r14.t1[r14.t7.toNat]!.fThen false with | none => none | some r21 => bif bif decide (r21 = 0) then false else true then some (r21) else match M143 r14.b0 r14.t1[r14.t7.toNat]!.fElse false with | none => none | some r22 => bif bif decide (r22 = 0) then false else true then some (r22) else none else match bif decide (r14.t1[r14.t7.toNat]!.fCost < 0) then some (true) else bif decide (10000 < r14.t1[r14.t7.toNat]!.fCost) then some (true) else bif decide (r14.t1[r14.t7.toNat]!.fN < 0) then some (true) else bif decide (r14.t1[r14.t7.toNat]!.fDo = 4) then some (decide (4096 < r14.t1[r14.t7.toNat]!.fN)) else some (false) with | none => none | some r23 => bif r23 then some (3) else match bif decide (0 < (↑r14.t1[r14.t7.toNat]!.fBounds.length : Int)) then if (0 : Int) ≤ i64.wrap ((↑r14.t1[r14.t7.toNat]!.fBounds.length : Int) - (1 : Int)) ∧ i64.wrap ((↑r14.t1[r14.t7.toNat]!.fBounds.length : Int) - (1 : Int)) < (↑r14.t1[r14.t7.toNat]!.fBounds.length : Int) then some (decide (67108864 < ((r14.t1, r14.t2, (), r14.t7, ()), r14.b0, ()).fst.fst[((r14.t1, r14.t2, (), r14.t7, ()), r14.b0, ()).fst.snd.snd.snd.fst.toNat]!.fBounds[(i64.wrap ((↑((r14.t1, r14.t2, (), r14.t7, ()), r14.b0, ()).fst.fst[((r14.t1, r14.t2, (), r14.t7, ()), r14.b0, ()).fst.snd.snd.snd.fst.toNat]!.fBounds.length : Int) - 1)).toNat]!)) else none else some (false) with | none => none | some r24 => bif r24 then some (3) else match m142 r14.b0.fVars (GTerm.mk r14.t1[r14.t7.toNat]!.fTerm.fOp r14.t1[r14.t7.toNat]!.fTerm.fN r14.t1[r14.t7.toNat]!.fTerm.fKids) false with | none => none | some r25 => bif bif decide (r25 = 0) then false else true then some (r25) else match M143 r14.b0 r14.t1[r14.t7.toNat]!.fThen false with | none => none | some r26 => bif bif decide (r26 = 0) then false else true then some (r26) else match M143 r14.b0 r14.t1[r14.t7.toNat]!.fElse false with | none => none | some r27 => bif bif decide (r27 = 0) then false else true then some (r27) else none else none else some (0)
theorem c143 (M143 : Flat → (List GStep) → Bool → Option E143) (a0 : Flat) (a1 : List GStep) (a2 : Bool) : callR Tryz.prog (F143 M143) 300 (an143 M143) 143 (A143.c (a0, a1, a2, ())) [] 0 d143.rd = s143 M143 a0 a1 a2 := by kernel_rfl
def mm143 : Nat → (Flat → (List GStep) → Bool → Option E143)
 | 0 => (fun _ _ _ => none)
 | n + 1 => (s143 (mm143 n))
def m143 (n : Nat) : Flat → (List GStep) → Bool → Option E143 := (mm143 n)
theorem mm143_ok : ∀ n, H143 (m143 n)
 | 0 => fun _ _ h => (by cases h)
 | n + 1 => by
  have ih := mm143_ok n
  have i143 := ih
  exact (hl_of (F143_ok i143) (fa143 (m143 n)) (fun _ => by kernel_rfl) (fun _ => by kernel_rfl) fun g => c143 (m143 n) g.1 g.2.1 g.2.2.1)
def r143 : Flat → (List GStep) → Bool → Option E143 := fun a0 a1 a2 => lim (fun n => m143 n a0 a1 a2)
theorem r143_ok : H143 r143 := fun g b h => by
 obtain ⟨n, hn⟩ := lim_some (show lim (fun n => m143 n g.1 g.2.1 g.2.2.1) = some b from h)
 exact (mm143_ok n) g b hn
def e143 (F : Orc) : Orc := x143 r143 F
theorem e143_ok {F : Orc} (h : OrcG Tryz.prog F) : OrcG Tryz.prog (e143 F) := x143_ok r143_ok h
def F78 : Orc := (e143 (e142 (e141 (e140 (e139 (e138 (e90 or0)))))))
theorem F78_ok : OrcG Tryz.prog F78 := (e143_ok (e142_ok (e141_ok (e140_ok (e139_ok (e138_ok (e90_ok or0_g)))))))
structure L78_1 where
 t4 : Int
 t6 : Int
 b0 : Flat
 b1 : Hatch
def d78_1 : Td 0 L78_1 := .c [] [1, 4, 5, 6] (.r 0 2 (ec 1 (qp 0 0) (ec 4 (qi .i64) (ec 5 (qp 1 0) (ec 6 (qi .i64) en)))) (sb 0 26 (lg 26) (sb 1 139 (lg 139) sn)) (fun z => ⟨z.1.2.1, z.1.2.2.2.1, z.2.1, z.2.2.1⟩) (fun x => (((), x.t4, (), x.t6, ()), (x.b0, x.b1, ()))) fun _ => rfl)
def n78_1 (p : L78_1) : Option (Option L78_1) :=
 bif decide (p.t6 < p.t4) then if (0 : Int) ≤ p.t6 ∧ p.t6 < (↑p.b0.fHatches.length : Int) then bif p.b0.fHatches[p.t6.toNat]!.fName.toList == p.b1.fName.toList then some (none) else some (some (L78_1.mk p.t4 (i64.wrap (p.t6 + 1)) p.b0 (Hatch.mk p.b1.fName p.b1.fLow p.b1.fHigh (GTerm.mk p.b1.fTerm.fOp p.b1.fTerm.fN p.b1.fTerm.fKids)))) else none else some (none)
theorem q78_1 (p : L78_1) : execA Tryz.prog (F78) Tryz.f78.ntmps 300 (loopAt Tryz.f78 1) .no (Option L78_1) (d78_1.pat p) (kOn d78_1.rd) = n78_1 p := by kernel_rfl
def a78_1 : L78_1 → Option L78_1 := advG (n78_1)
structure L78_0 where
 t4 : Int
 b0 : Flat
def d78_0 : Td 0 L78_0 := .c [] [1, 4] (.r 0 1 (ec 1 (qp 0 0) (ec 4 (qi .i64) en)) (sb 0 26 (lg 26) sn) (fun z => ⟨z.1.2.1, z.2.1⟩) (fun x => (((), x.t4, ()), (x.b0, ()))) fun _ => rfl)
def n78_0 (p : L78_0) : Option (Option L78_0) :=
 bif decide (p.t4 < (↑p.b0.fHatches.length : Int)) then if (0 : Int) ≤ p.t4 ∧ p.t4 < (↑p.b0.fHatches.length : Int) then match m140 p.b0.fHatches[p.t4.toNat]!.fName with | none => none | some r1 => bif bif r1 then false else true then some (none) else match a78_1 (L78_1.mk p.t4 (0) p.b0 (Hatch.mk p.b0.fHatches[p.t4.toNat]!.fName p.b0.fHatches[p.t4.toNat]!.fLow p.b0.fHatches[p.t4.toNat]!.fHigh (GTerm.mk p.b0.fHatches[p.t4.toNat]!.fTerm.fOp p.b0.fHatches[p.t4.toNat]!.fTerm.fN p.b0.fHatches[p.t4.toNat]!.fTerm.fKids))) with | none => none | some r2 => bif decide (r2.t6 < r2.t4) then if (0 : Int) ≤ r2.t6 ∧ r2.t6 < (↑r2.b0.fHatches.length : Int) then bif r2.b0.fHatches[r2.t6.toNat]!.fName.toList == r2.b1.fName.toList then some (none) else none else none else bif bif m141 r2.b1.fLow r2.b1.fHigh then false else true then some (none) else match m142 r2.b0.fVars (GTerm.mk r2.b1.fTerm.fOp r2.b1.fTerm.fN r2.b1.fTerm.fKids) true with | none => none | some r3 => bif bif decide (r3 = 0) then false else true then some (none) else some (some (L78_0.mk (i64.wrap (r2.t4 + 1)) r2.b0)) else none else some (none)
def g78_0 : An := (.two .no (.two (.two .no (.two .no (.two (.two .no (d78_1.lp a78_1 .no)) .no))) .no))
theorem q78_0 (p : L78_0) : execA Tryz.prog (F78) Tryz.f78.ntmps 300 (loopAt Tryz.f78 0) g78_0 (Option L78_0) (d78_0.pat p) (kOn d78_0.rd) = n78_0 p := by kernel_rfl
def a78_0 : L78_0 → Option L78_0 := advG (n78_0)
abbrev E78 : Type := Int
def d78 : Td 0 E78 := .c [] [2] (.r 0 0 (ec 2 (qi .i64) en) sn (fun z => z.1.1) (fun x => ((x, ()), (()))) fun _ => rfl)
def A78 := (lc (qg 26) ln)
def an78 : An := (.two .no (.two .no (.two .no (.two .no (.two (.two .no (d78_0.lp a78_0 g78_0)) (.two .no (.two .no (.two .no (.two (.two (.rb [] 86) .no) .no)))))))))
theorem pu78  : ∀ f ∈ ([] : List Nat), PureF (F78) f := ob_nil
theorem fa78 : FnAn Tryz.prog (F78) 0 300 78 (an78) := fnAn_of (l := [(loopAt Tryz.f78 0, (d78_0.lp a78_0 g78_0)), (loopAt Tryz.f78 1, (d78_1.lp a78_1 .no)), (.skip, (.rb [] 86))]) Tryz.func78 (bodyOf_eq (by kernel_rfl)) (by kernel_rfl) (ob_cons ⟨d78_0.ok _, advG_ok (q78_0)⟩ (ob_cons ⟨d78_1.ok _, advG_ok (q78_1)⟩ (ob_cons pu78 ob_nil)))
def m78 (a0 : Flat) : Option E78 :=
 match m138 a0 with | none => none | some r4 => bif bif r4 then false else true then some (4) else match m139 a0.fVars with | none => none | some r5 => bif bif decide (r5 = 0) then false else true then some (r5) else match a78_0 (L78_0.mk (0) a0) with | none => none | some r6 => bif decide (r6.t4 < (↑r6.b0.fHatches.length : Int)) then if (0 : Int) ≤ r6.t4 ∧ r6.t4 < (↑r6.b0.fHatches.length : Int) then match m140 r6.b0.fHatches[r6.t4.toNat]!.fName with | none => none | some r7 => bif bif r7 then false else true then some (7) else match a78_1 (L78_1.mk r6.t4 (0) r6.b0 (Hatch.mk r6.b0.fHatches[r6.t4.toNat]!.fName r6.b0.fHatches[r6.t4.toNat]!.fLow r6.b0.fHatches[r6.t4.toNat]!.fHigh (GTerm.mk r6.b0.fHatches[r6.t4.toNat]!.fTerm.fOp r6.b0.fHatches[r6.t4.toNat]!.fTerm.fN r6.b0.fHatches[r6.t4.toNat]!.fTerm.fKids))) with | none => none | some r8 => bif decide (r8.t6 < r8.t4) then if (0 : Int) ≤ r8.t6 ∧ r8.t6 < (↑r8.b0.fHatches.length : Int) then bif r8.b0.fHatches[r8.t6.toNat]!.fName.toList == r8.b1.fName.toList then some (8) else none else none else bif bif m141 r8.b1.fLow r8.b1.fHigh then false else true then some (3) else match m142 r8.b0.fVars (GTerm.mk r8.b1.fTerm.fOp r8.b1.fTerm.fN r8.b1.fTerm.fKids) true with | none => none | some r9 => bif bif decide (r9 = 0) then false else true then some (r9) else none else none else match r143 r6.b0 r6.b0.fBody true with | none => none | some r10 => bif bif decide (r10 = 0) then false else true then some (r10) else match r90 r6.b0.fBody with | none => none | some r11 => match bif decide (4096 < r11.fst) then some (true) else bif decide (8 < r11.snd.fst) then some (true) else some (decide (67108864 < r11.snd.snd)) with | none => none | some r12 => bif r12 then some (4) else some (0)
theorem c78 (a0 : Flat) : callR Tryz.prog (F78) 300 (an78) 78 (A78.c (a0, ())) [] 0 d78.rd = m78 a0 := by kernel_rfl
def e78 : Orc → Orc := eL Tryz.prog 78 false A78 d78 (fun g => m78 g.1)
theorem e78_ok {F : Orc} (h : OrcG Tryz.prog F) : OrcG Tryz.prog (e78 F) := eL_ok (sc := scU) scU_ok (hl_of F78_ok fa78 (fun _ => by kernel_rfl) (fun _ => by kernel_rfl) fun g => c78 g.1) ⟨_, Tryz.func78, by kernel_rfl, by kernel_rfl⟩ (fun _ => by kernel_rfl) (fun _ => by kernel_rfl) h
theorem e78_pure {F : Orc} {f : Nat} (h : PureF F f) : PureF (e78 F) f := orL_pure h (fun _ => by kernel_rfl)
end Go.Proofs.YtnfljbehcffmcaaGreat
end
