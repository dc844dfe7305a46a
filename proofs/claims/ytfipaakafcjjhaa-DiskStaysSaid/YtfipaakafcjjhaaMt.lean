/- DiskStays: the law. -/
import Derived.Test.YtfipaakafcjjhaaWu
import Derived.Test.YtfipaakafcjjhaaFw
import Derived.Test.YtfipaakafcjjhaaL3
set_option linter.unusedSectionVars false
set_option linter.unusedVariables false
set_option linter.unusedSimpArgs false
namespace Go.Ab
open Go Go.RowKit
/-- as CW, where no call is deferred -/
def CWd (P : Program) (C : Cx) (n : Nat) (c : Code) (Q : Exit → Env → List Res → Prop) (E : Env) (σ : List Res) : Prop :=
  ∀ a w, Sim C n E σ a w → a.defers = [] → c.wp P (fun e a' w' => (e = .normal → a'.defers = []) ∧ ∃ E' σ', Sim C n E' σ' a' w' ∧ Q e E' σ') a w
def SeqD (P : Program) (C : Cx) (n : Nat) (y : Code) (Q : Exit → Env → List Res → Prop) : Exit → Env → List Res → Prop
  | .normal, E, σ => CWd P C n y Q E σ
  | e, E, σ => Q e E σ
section
variable {P : Program} {C : Cx} {n : Nat} {c x y : Code} {Q Q2 : Exit → Env → List Res → Prop} {E E' : Env} {σ : List Res}
theorem CWd.weak (h : CWd P C n c Q E σ) (hs : Sub E E') : CWd P C n c Q E' σ := fun a w ha hd => h a w (ha.sub hs) hd
theorem CWd.seq (h : CWd P C n x (SeqD P C n y Q) E σ) : CWd P C n (.seq x y) Q E σ := fun a w ha hd => by
  refine wp_seq (wp_mono (h a w ha hd) fun e a' w' ⟨h0, E', σ', h1, h2⟩ => ?_)
  cases e with
  | normal => exact h2 a' w' h1 (h0 rfl)
  | _ => exact ⟨h0, E', σ', h1, h2⟩
theorem CWd.cut (K : Env → List Res → Prop) (first : CWd P C n c (CutQ K Q) E σ) (rest : ∀ E σ, K E σ → Q .normal E σ) : CWd P C n c Q E σ := fun a w ha hd =>
  wp_mono (first a w ha hd) fun e _ _ ⟨h0, E', σ', h1, h2⟩ => ⟨h0, E', σ', h1, by cases e <;> first | exact rest _ _ h2 | exact h2⟩
theorem CWd.ret (h : Q .ret E σ) : CWd P C n .ret Q E σ := fun _ _ ha _ => wp_ret ⟨(fun e => nomatch e), E, σ, ha, h⟩
theorem CWd.skip (h : Q .normal E σ) : CWd P C n .skip Q E σ := fun _ _ ha hd => wp_skip ⟨fun _ => hd, E, σ, ha, h⟩
theorem CWd.cond {cnd : Operand} {b : Bool} (hc : E.ev cnd = some (.lit (.bool b))) (ht : b = true → CWd P C n x Q E σ) (hf : b = false → CWd P C n y Q E σ) : CWd P C n (.cond cnd x y) Q E σ := fun a w ha hd => by
  have he := ev_bool ha hc
  cases b with
  | true => exact wp_cond_true he (ht rfl a w ha hd)
  | false => exact wp_cond_false he (hf rfl a w ha hd)
theorem CWd.region {id : Nat} {l : List Oper} (h : RW P C n l.toArray (fun E' σ' => Q .normal E' σ') l E σ) : CWd P C n (.region id l.toArray false) Q E σ := fun a w ha hd => by
  refine wp_mono (wp_region_lit (h a w ha)) fun e a' w' ⟨he, hd', E', σ', h1, h2⟩ => ?_
  subst he
  exact ⟨fun _ => hd'.trans hd, E', σ', h1, h2⟩
/-- From here on everything is old. -/
theorem CWd.fresh (h : ∀ a w, Sim C n E σ a w → ∃ E2 : Env, (∀ t v, Env.get E2 t = some v → ∃ u, v = .lit u ∧ a.tmps[t]? = some u) ∧ CW P ⟨w, noA, []⟩ n c Q2 E2 [])
    (hQ : ∀ e E σ, Q2 e E σ → e ≠ .normal ∧ ∃ E', (∀ t v, Env.get E' t = some v → ∃ u, v = .lit u ∧ Env.get E t = some v) ∧ Q e E' []) : CWd P C n c Q E σ := fun a w ha hd => by
  obtain ⟨E2, h1, h2⟩ := h a w ha
  have hs : Sim ⟨w, noA, []⟩ n E2 [] a w := ⟨.nil hd, ha.size, fun t v ht => by
    obtain ⟨u, rfl, h3⟩ := h1 t v ht
    exact ⟨u, h3, .lit u⟩, ⟨Kp.refl _ _, fun r hr => (List.not_mem_nil hr).elim, List.nodup_nil, fun b hb => (List.not_mem_nil (show b ∈ ([] : List Nat) from hb)).elim⟩⟩
  refine wp_mono (h2 a w hs) fun e a' w' ⟨E', σ', q1, q2⟩ => ?_
  obtain ⟨ne, E'', h3, h4⟩ := hQ e E' σ' q2
  refine ⟨fun e => absurd e ne, E'', [], ⟨?_, q1.size, fun t v ht => ?_, ⟨ha.good.kept.trans q1.good.kept (fun b hb => (List.not_mem_nil hb).elim), fun r hr => (List.not_mem_nil hr).elim, List.nodup_nil, fun b hb => (List.not_mem_nil (show b ∈ ([] : List Nat) from hb)).elim⟩⟩, h4⟩
  · obtain ⟨Ds, d1, d2, d3⟩ := q1.defers
    exact ⟨Ds, d1, d2, fun D hD => ⟨(d3 D hD).1, Nat.le_trans ha.good.kept.size (d3 D hD).2.1, fun hx => (List.not_mem_nil (show D ∈ ([] : List Nat) from hx)).elim, (d3 D hD).2.2.2⟩⟩
  · obtain ⟨u, rfl, h5⟩ := h3 t v ht
    obtain ⟨v, h6, h7⟩ := q1.slots t _ h5
    rw [h7.litEq] at h6
    exact ⟨u, h6, .lit u⟩
theorem Fn.ofD {f : FuncId} {fn : Func} {args : List AV} {Φ : AV → List Res → Prop} (hf : P.funcs[f]? = some fn) (hb : fn.body = some c) (hn : fn.ntmps = n) (hl : Nat.ble args.length n = true)
    (h : ∀ C, CWd P C n c (FinQ P C n fn Φ) (argsEnv 0 args) σ) : Fn P f args σ Φ := fun w A vs hr hd hnd => Fn.at hf hb hn hl hr hd hnd (fun a ha h0 => wp_mono (h _ a w ha h0) fun _ _ _ h => h.2)
/-- the length of a slice is a number -/
theorem CW.lenS {α : Type} [Inhabited α] {sz : Nat} {k : α → List AV} {l : List α} (t : Nat) (ht : Env.get E t = some (.sl sz k l)) (h : l.length ≤ 9223372036854775807 → CW P C n c Q E σ) : CW P C n c Q E σ := fun a w ha => by
  obtain ⟨v, _, hr⟩ := ha.slots t _ ht
  obtain ⟨_, _, _, _, hl, _⟩ := hr.slInv
  exact h hl a w ha
end
end Go.Ab
namespace Go.Proofs.Ytfipaakafcjjhaa
open Go Go.RowKit Go.Ab Go.Proofs

theorem f17 (p0 : Disk) (p1 : Int) {r : List Int × Int} (hm : m17 p0 p1 = some r) : Fr Try.prog 17 [.agg [.sl 1 (cL 1 (cN .u8)) p0.fDurable, .sl 2 Write.cells p0.fPending, .i p0.fLeft, .b p0.fDown], .i p1] (fun a s => ∃ v : Value, a = .tup [.lit v, .i r.2] ∧ s = [.row v 5 1 (cN .u8) r.1]) :=
  Fr.ofFn (m17o_ok p0 p1 hm) (by
    rintro _ _ ⟨v, rfl, rfl⟩
    exact ⟨Cl.tup (ClL.cons (Cl.lit _) (ClL.cons (Cl.lit _) ClL.nil)), fun r hr => by rw [List.mem_singleton] at hr; subst hr; exact ClR.row (fun x => ClL.cons (Cl.lit _) ClL.nil)⟩)
theorem f21 (p0 p1 : Disk) {r : Bool} (hm : m21 p0 p1 = some r) : Fr Try.prog 21 [.agg [.sl 1 (cL 1 (cN .u8)) p0.fDurable, .sl 2 Write.cells p0.fPending, .i p0.fLeft, .b p0.fDown], .agg [.sl 1 (cL 1 (cN .u8)) p1.fDurable, .sl 2 Write.cells p1.fPending, .i p1.fLeft, .b p1.fDown]] (fun a s => a = .b r ∧ s = []) :=
  Fr.ofFn (m21_ok p0 p1 hm) (by
    rintro _ _ ⟨rfl, rfl⟩
    exact ⟨Cl.lit _, fun r hr => by cases hr⟩)
theorem f14 (p0 p1 : List Int) {r : Bool} (hm : m14 p0 p1 = some r) : Fr Try.prog 14 [.sl 1 (cN .u8) p0, .sl 1 (cN .u8) p1] (fun a s => a = .b r ∧ s = []) :=
  Fr.ofFn (m14_ok p0 p1 hm) (by
    rintro _ _ ⟨rfl, rfl⟩
    exact ⟨Cl.lit _, fun r hr => by cases hr⟩)
theorem len39 {l x : List Int} (h : m39 l = some x) : x.length ≤ 1073741824 := by
  unfold m39 at h
  split at h <;> simp_all <;> (try split at h) <;> simp_all
theorem len17 {p0 : Disk} {p1 : Int} {r : List Int × Int} (h : m17 p0 p1 = some r) : r.1.length ≤ 1073741824 := by
  unfold m17 at h
  obtain ⟨x1, _, h⟩ := bnd h
  split at h
  · cases h; simp
  split at h
  · cases h; simp
  split at h
  · cases h; simp
  split at h
  · split at h
    · obtain ⟨x, hx, h⟩ := bnd h
      cases h; exact len39 hx
    · obtain ⟨x, hx, h⟩ := bnd h
      cases h; exact len39 hx
  · cases h
theorem zer4 : zerosOf Try.prog 4 = some [.bool false] := by kernel_rfl
theorem w64n {i len : Nat} (hl : len ≤ 9223372036854775807) (h : i < len) : IntKind.i64.wrap ((i : Int) + 1) = ((i + 1 : Nat) : Int) := w64_succ hl h


set_option maxHeartbeats 4000000 in
theorem tail10 {C : Cx} {ka kb kc kd k10 : Code} (hk10 : Try.f10.body = some (.seq ka (.seq kb (.seq kc (.seq kd k10))))) (hA : ∀ b, ¬ C.A0 b) (hO : C.O0 = []) (h0 : 0 < C.w0.heap.size) {p0 : Disk} {p1 : Int} {p2 : List Int} {x17 : List Int × Int} {x19 x22 x23 x24 : Disk × Int}
    (h17 : m17 p0 p1 = some x17) (h19 : m19 p0 p1 p2 = some x19) (h22 : m22 p0 = some x22) (h23 : m23 p0 3 = some x23) (h24 : m24 p0 [true, true] = some x24) (h21 : m21 p0 p0 = some true) (h14 : m14 p2 p2 = some true)
    {b1 b7 : Nat} {us1 us7 : List Value} {v2 v8 : Value} (hc1 : ∀ j u, us1[j]? = some u → C.w0.cell? ⟨b1, 0 + j, none⟩ = some u) (hr1 : RelL allA C.w0 (Disk.cells p0) us1)
    (hc7 : ∀ j u, us7[j]? = some u → C.w0.cell? ⟨b7, 0 + j, none⟩ = some u) (hr7 : RelL allA C.w0 (Disk.cells p0) us7) (hv2 : Rel allA C.w0 (.sl 1 (cN .u8) p2) v2) (hv8 : Rel allA C.w0 (.sl 1 (cN .u8) p2) v8) :
    CW Try.prog C 144 k10 (fun e E _ => e = .ret ∧ Env.get E 6 = some (.b true)) [(1, .i p1), (2, .lit v2), (3, .lit (.pointer (some ⟨b1, 0, none⟩))), (7, .lit (.pointer (some ⟨b7, 0, none⟩))), (8, .lit v8)] [] := by
  have hd1 : Rel allA C.w0 (.agg [.sl 1 (cL 1 (cN .u8)) p0.fDurable, .sl 2 Write.cells p0.fPending, .i p0.fLeft, .b p0.fDown]) (.agg us1.toArray) := Rel.aggL hr1
  have hd7 : Rel allA C.w0 (.agg [.sl 1 (cL 1 (cN .u8)) p0.fDurable, .sl 2 Write.cells p0.fPending, .i p0.fLeft, .b p0.fDown]) (.agg us7.toArray) := Rel.aggL hr7
  obtain ⟨e1, us, rfl, _, hr1⟩ := RelL.head hr1
  obtain ⟨e2, us, rfl, _, hr1⟩ := hr1.head
  obtain ⟨e3, us, rfl, h3, hr1⟩ := hr1.head
  obtain ⟨e4, us, rfl, h4, hr1⟩ := hr1.head
  obtain rfl : us = [] := List.eq_nil_of_length_eq_zero (by simpa using hr1.1)
  obtain rfl := h3.litEq
  obtain rfl := h4.litEq
  obtain ⟨e5, us, rfl, _, hr7⟩ := RelL.head hr7
  obtain ⟨e6, us, rfl, _, hr7⟩ := hr7.head
  obtain ⟨e7, us, rfl, h7, hr7⟩ := hr7.head
  obtain ⟨e8, us, rfl, h8, hr7⟩ := hr7.head
  obtain rfl : us = [] := List.eq_nil_of_length_eq_zero (by simpa using hr7.1)
  obtain rfl := h7.litEq
  obtain rfl := h8.litEq
  obtain rfl : k10 = (match Try.f10.body with | some (.seq _ (.seq _ (.seq _ (.seq _ c)))) => c | _ => .skip) := by rw [hk10]
  refine CW.seq ?_
  refine CW.region ?_
  refine RW.v rfl rfl rfl (Yv.loadOL hO hc1 rfl rfl many26) ?_
  rintro _ _ ⟨rfl, rfl⟩
  refine RW.p rfl rfl rfl (Yp.move rfl rfl) ?_
  refine RW.p rfl rfl rfl (Yp.move rfl rfl) ?_
  refine RW.c rfl rfl rfl (Yc.det hO (Det.agg (Det.lits [e1, e2, .int .i64 p0.fLeft, .bool p0.fDown]) (Det.lit (Det.lit Det.nil))) (RelL.cons hd1 (RelL.cons (.lit _) (RelL.cons hv2 RelL.nil))) rfl rfl ok19 rfl rfl (f19 p0 p1 p2 h19)) ?_
  rintro _ _ ⟨_, ⟨rfl, rfl⟩, rfl⟩
  refine RW.p rfl rfl rfl (Yp.move rfl rfl) ?_
  refine RW.p rfl rfl rfl (Yp.extract rfl rfl rfl) ?_
  refine RW.p rfl rfl rfl (Yp.extract rfl rfl rfl) ?_
  refine RW.v rfl rfl rfl (Yv.alloc rfl zerb26) ?_
  rintro _ _ ⟨b9, rfl, rfl⟩
  refine RW.u rfl rfl (Yu.storeB 0 rfl rfl rfl rfl sz26 (Pw.p rfl) rfl (Nat.le_of_ble_eq_true rfl)) ?_
  refine RW.p rfl rfl rfl (Yp.assign rfl rfl) ?_
  refine RW.nil ?_
  refine CW.seq ?_
  refine CW.region ?_
  refine RW.v rfl rfl rfl (Yv.loadOL hO hc1 rfl rfl many26) ?_
  rintro _ _ ⟨rfl, rfl⟩
  refine RW.c rfl rfl rfl (Yc.det hO (Det.agg (Det.lits [e1, e2, .int .i64 p0.fLeft, .bool p0.fDown]) Det.nil) (RelL.cons hd1 RelL.nil) rfl rfl ok22 rfl rfl (f22 p0 h22)) ?_
  rintro _ _ ⟨_, ⟨rfl, rfl⟩, rfl⟩
  refine RW.p rfl rfl rfl (Yp.move rfl rfl) ?_
  refine RW.p rfl rfl rfl (Yp.extract rfl rfl rfl) ?_
  refine RW.p rfl rfl rfl (Yp.extract rfl rfl rfl) ?_
  refine RW.v rfl rfl rfl (Yv.alloc rfl zerb26) ?_
  rintro _ _ ⟨b11, rfl, rfl⟩
  refine RW.u rfl rfl (Yu.storeB 0 rfl rfl rfl rfl sz26 (Pw.p rfl) rfl (Nat.le_of_ble_eq_true rfl)) ?_
  refine RW.p rfl rfl rfl (Yp.assign rfl rfl) ?_
  refine RW.nil ?_
  refine CW.seq ?_
  refine CW.region ?_
  refine RW.v rfl rfl rfl (Yv.loadOL hO hc1 rfl rfl many26) ?_
  rintro _ _ ⟨rfl, rfl⟩
  refine RW.v rfl rfl rfl (Yv.lit cB ([true, true] : List Bool) rfl Try.underlying44 sz4 zer4 rfl rfl rfl rfl rfl (fun i hi => by match i, hi with | 0, _ => rfl | 1, _ => rfl) (by decide) (by decide)) ?_
  rintro _ _ ⟨vk, rfl, rfl⟩
  refine RW.frz 0 56 rfl rfl (Vw.row 0 rfl) ?_
  refine RW.c rfl rfl rfl (Yc.old hO rfl rfl ok24 rfl rfl (fun us w hg h1 => by
    obtain ⟨u, us, rfl, k1, h1⟩ := RelL.head h1
    obtain ⟨u2, us, rfl, k2, h1⟩ := h1.head
    obtain rfl : us = [] := List.eq_nil_of_length_eq_zero (by simpa using h1.1)
    have k3 := ((Det.agg (Det.lits [e1, e2, .int .i64 p0.fLeft, .bool p0.fDown]) Det.nil) (al C _) w).2 _ (RelL.cons k1 RelL.nil)
    cases k3
    exact RelL.cons ((hg.oldL hO (RelL.cons hd1 RelL.nil)).2 0 _ _ rfl rfl) (RelL.cons (k2.mono fun _ _ _ => ⟨trivial, rfl⟩) RelL.nil)) (f24 p0 [true, true] h24)) ?_
  rintro _ _ ⟨_, ⟨rfl, rfl⟩, rfl⟩
  refine RW.p rfl rfl rfl (Yp.move rfl rfl) ?_
  refine RW.p rfl rfl rfl (Yp.extract rfl rfl rfl) ?_
  refine RW.p rfl rfl rfl (Yp.extract rfl rfl rfl) ?_
  refine RW.v rfl rfl rfl (Yv.alloc rfl zerb26) ?_
  rintro _ _ ⟨b13, rfl, rfl⟩
  refine RW.u rfl rfl (Yu.storeB 0 rfl rfl rfl rfl sz26 (Pw.p rfl) rfl (Nat.le_of_ble_eq_true rfl)) ?_
  refine RW.p rfl rfl rfl (Yp.assign rfl rfl) ?_
  refine RW.nil ?_
  refine CW.seq ?_
  refine CW.region ?_
  refine RW.v rfl rfl rfl (Yv.loadOL hO hc1 rfl rfl many26) ?_
  rintro _ _ ⟨rfl, rfl⟩
  refine RW.c rfl rfl rfl (Yc.det hO (Det.agg (Det.lits [e1, e2, .int .i64 p0.fLeft, .bool p0.fDown]) (Det.lit Det.nil)) (RelL.cons hd1 (RelL.cons (.lit _) RelL.nil)) rfl rfl ok23 rfl rfl (f23 p0 3 h23)) ?_
  rintro _ _ ⟨_, ⟨rfl, rfl⟩, rfl⟩
  refine RW.p rfl rfl rfl (Yp.move rfl rfl) ?_
  refine RW.p rfl rfl rfl (Yp.extract rfl rfl rfl) ?_
  refine RW.p rfl rfl rfl (Yp.extract rfl rfl rfl) ?_
  refine RW.v rfl rfl rfl (Yv.alloc rfl zerb26) ?_
  rintro _ _ ⟨b15, rfl, rfl⟩
  refine RW.u rfl rfl (Yu.storeB 0 rfl rfl rfl rfl sz26 (Pw.p rfl) rfl (Nat.le_of_ble_eq_true rfl)) ?_
  refine RW.p rfl rfl rfl (Yp.assign rfl rfl) ?_
  refine RW.nil ?_
  refine CW.seq ?_
  refine CW.region ?_
  refine RW.v rfl rfl rfl (Yv.loadOL hO hc1 rfl rfl many26) ?_
  rintro _ _ ⟨rfl, rfl⟩
  refine RW.p rfl rfl rfl (Yp.move rfl rfl) ?_
  refine RW.c rfl rfl rfl (Yc.det hO (Det.agg (Det.lits [e1, e2, .int .i64 p0.fLeft, .bool p0.fDown]) (Det.lit Det.nil)) (RelL.cons hd1 (RelL.cons (.lit _) RelL.nil)) rfl rfl ok17 rfl rfl (f17 p0 p1 h17)) ?_
  rintro _ _ ⟨_, ⟨vr, rfl, rfl⟩, rfl⟩
  refine RW.p rfl rfl rfl (Yp.move rfl rfl) ?_
  refine RW.p rfl rfl rfl (Yp.extract rfl rfl rfl) ?_
  refine RW.p rfl rfl rfl (Yp.extract rfl rfl rfl) ?_
  refine RW.p rfl rfl rfl (Yp.assign rfl rfl) ?_
  refine RW.p rfl rfl rfl (Yp.assign rfl rfl) ?_
  refine RW.nil ?_
  have hN := len17 h17
  refine CW.seq ?_
  refine CW.cut (fun E σ => Sub [(1, .i p1), (2, .lit v2), (3, .lit (.pointer (some ⟨b1, 0, none⟩))), (7, .lit (.pointer (some ⟨b7, 0, none⟩))), (8, .lit v8), (9, .lit (.pointer (some ⟨b9, 0, none⟩))), (11, .lit (.pointer (some ⟨b11, 0, none⟩))), (13, .lit (.pointer (some ⟨b13, 0, none⟩))), (15, .lit (.pointer (some ⟨b15, 0, none⟩)))] E ∧ σ = [.box b15 26 (Disk.cells x23.1), .box b13 26 (Disk.cells x24.1), .box b11 26 (Disk.cells x22.1), .box b9 26 (Disk.cells x19.1)]) ?_ ?_
  · refine CW.seq ?_
    refine CW.region ?_
    refine RW.p rfl rfl rfl (Yp.move rfl rfl) ?_
    refine RW.p rfl rfl rfl (Yp.lenRow 0 rfl rfl rfl Try.underlying29) ?_
    refine RW.p rfl rfl rfl (Yp.move rfl rfl) ?_
    refine RW.nil ?_
    refine CW.block ?_
    refine CW.lp (fun k E σ => ∃ (l : List Int) (i : Nat), l.length = x17.1.length ∧ i + k = x17.1.length + 1 ∧ Sub [(1, .i p1), (2, .lit v2), (3, .lit (.pointer (some ⟨b1, 0, none⟩))), (7, .lit (.pointer (some ⟨b7, 0, none⟩))), (8, .lit v8), (9, .lit (.pointer (some ⟨b9, 0, none⟩))), (11, .lit (.pointer (some ⟨b11, 0, none⟩))), (13, .lit (.pointer (some ⟨b13, 0, none⟩))), (15, .lit (.pointer (some ⟨b15, 0, none⟩))), (17, .lit vr), (72, .i (x17.1.length : Int)), (73, .i (i : Int))] E ∧ σ = [.row vr 5 1 (cN .u8) l, .box b15 26 (Disk.cells x23.1), .box b13 26 (Disk.cells x24.1), .box b11 26 (Disk.cells x22.1), .box b9 26 (Disk.cells x19.1)]) (x17.1.length + 1) ?_ ?_
    · exact ⟨x17.1, 0, rfl, by omega, (Sub.cons rfl (Sub.cons rfl (Sub.cons rfl (Sub.cons rfl (Sub.cons rfl (Sub.cons rfl (Sub.cons rfl (Sub.cons rfl (Sub.cons rfl (Sub.cons rfl (Sub.cons rfl (Sub.cons rfl (Sub.nil))))))))))))), rfl⟩
    · rintro k E σ ⟨l, i, hl, hk, hsub, rfl⟩
      refine CW.weak ?_ hsub
      refine CW.seq ?_
      refine CW.region ?_
      refine RW.p rfl rfl rfl (Yp.lss rfl rfl rfl) ?_
      refine RW.nil ?_
      refine CW.seq ?_
      refine CW.cond rfl (fun hb1 => ?_) (fun hb1 => ?_)
      · have hi : i < x17.1.length := by simpa using hb1
        refine CW.skip ?_
        refine CW.seq ?_
        refine CW.block ?_
        refine CW.seq ?_
        refine CW.region ?_
        refine RW.p rfl rfl rfl (Yp.move rfl rfl) ?_
        refine RW.p rfl rfl rfl (Yp.assign rfl rfl) ?_
        refine RW.nil ?_
        refine CW.region ?_
        refine RW.p rfl rfl rfl (Yp.move rfl rfl) ?_
        refine RW.p rfl rfl rfl (Yp.move rfl rfl) ?_
        refine RW.p rfl rfl rfl (Yp.indexRow 0 rfl rfl rfl rfl Try.underlying29 sz5 (by omega)) ?_
        refine RW.p rfl rfl rfl (Yp.loadR1 (of := 0) 0 i rfl rfl rfl one5 (by simp) (by omega) rfl) ?_
        refine RW.p rfl rfl rfl (Yp.xor rfl rfl rfl) ?_
        refine RW.p rfl rfl rfl (Yp.indexRow 0 rfl rfl rfl rfl Try.underlying29 sz5 (by omega)) ?_
        refine RW.u rfl rfl (Yu.storeR (of := 0) (m := i) 0 (bXor .u8 l[i]! 1) rfl rfl rfl rfl sz5 rfl rfl (by simp) (by omega) (by decide) rfl) ?_
        refine RW.nil ?_
        refine CW.region ?_
        refine RW.p rfl rfl rfl (Yp.add rfl rfl rfl) ?_
        refine RW.p rfl rfl rfl (Yp.move rfl rfl) ?_
        refine RW.eqv 73 rfl (congrArg AV.i (w64n (by omega) hi)) ?_
        refine RW.nil ?_
        refine ⟨k - 1, by omega, _, i + 1, by rw [List.length_set]; exact hl, by omega, (Sub.cons rfl (Sub.cons rfl (Sub.cons rfl (Sub.cons rfl (Sub.cons rfl (Sub.cons rfl (Sub.cons rfl (Sub.cons rfl (Sub.cons rfl (Sub.cons rfl (Sub.cons rfl (Sub.cons rfl (Sub.nil))))))))))))), rfl⟩
      · refine CW.sel [1, 1, 1, 1] rfl ?_
        refine CW.exit ?_
        exact ⟨(Sub.cons rfl (Sub.cons rfl (Sub.cons rfl (Sub.cons rfl (Sub.cons rfl (Sub.cons rfl (Sub.cons rfl (Sub.cons rfl (Sub.cons rfl (Sub.nil)))))))))), rfl⟩
    
  rintro E σ ⟨hsub, rfl⟩
  refine CW.weak ?_ hsub
  refine CW.seq ?_
  refine CW.cut (fun E σ => Sub [(1, .i p1), (2, .lit v2), (3, .lit (.pointer (some ⟨b1, 0, none⟩))), (7, .lit (.pointer (some ⟨b7, 0, none⟩))), (8, .lit v8)] E ∧ σ = []) ?_ ?_
  · refine CW.seq ?_
    refine CW.region ?_
    refine RW.p rfl rfl rfl (Yp.loadBN 3 rfl rfl rfl many26 (Nat.le_of_ble_eq_true rfl)) ?_
    refine RW.p rfl rfl rfl (Yp.loadBN 2 rfl rfl rfl many26 (Nat.le_of_ble_eq_true rfl)) ?_
    refine RW.p rfl rfl rfl (Yp.loadBN 1 rfl rfl rfl many26 (Nat.le_of_ble_eq_true rfl)) ?_
    refine RW.p rfl rfl rfl (Yp.loadBN 0 rfl rfl rfl many26 (Nat.le_of_ble_eq_true rfl)) ?_
    refine RW.v rfl rfl rfl (Yv.lit Disk.cells ([x19.1, x22.1, x24.1, x23.1] : List Disk) rfl Try.underlying54 sz26 zer26 rfl rfl rfl rfl rfl (fun i hi => by match i, hi with | 0, _ => rfl | 1, _ => rfl | 2, _ => rfl | 3, _ => rfl) (by decide) (by decide)) ?_
    rintro _ _ ⟨vd, rfl, rfl⟩
    refine RW.frz 0 87 rfl rfl (Vw.row 0 rfl) ?_
    refine RW.p rfl rfl rfl (Yp.lenSl rfl rfl Try.underlying54) ?_
    refine RW.p rfl rfl rfl (Yp.move rfl rfl) ?_
    refine RW.nil ?_
    refine CW.block ?_
    refine CW.sel [] rfl ?_
    refine CW.lp (fun k E σ => ∃ (ds : List Disk) (i : Nat), ds.length = 4 ∧ i + k = 5 ∧ Sub [(1, .i p1), (2, .lit v2), (3, .lit (.pointer (some ⟨b1, 0, none⟩))), (7, .lit (.pointer (some ⟨b7, 0, none⟩))), (8, .lit v8), (87, .sl 4 Disk.cells ds), (88, .i ((4 : Nat) : Int)), (89, .i (i : Int))] E ∧ σ = []) 5 ?_ ?_
    · exact ⟨[x19.1, x22.1, x24.1, x23.1], 0, rfl, rfl, (Sub.cons rfl (Sub.cons rfl (Sub.cons rfl (Sub.cons rfl (Sub.cons rfl (Sub.cons rfl (Sub.cons rfl (Sub.cons rfl (Sub.nil))))))))), rfl⟩
    · rintro k E σ ⟨ds, i, hl, hk, hsub, rfl⟩
      refine CW.weak ?_ hsub
      refine CW.seq ?_
      refine CW.region ?_
      refine RW.p rfl rfl rfl (Yp.lss rfl rfl rfl) ?_
      refine RW.nil ?_
      refine CW.seq ?_
      refine CW.cond rfl (fun hb1 => ?_) (fun hb1 => ?_)
      · have hi : i < 4 := by
          have := of_decide_eq_true hb1
          omega
        refine CW.skip ?_
        refine CW.seq ?_
        refine CW.cut (fun E σ => ∃ ds : List Disk, ds.length = 4 ∧ Sub [(1, .i p1), (2, .lit v2), (3, .lit (.pointer (some ⟨b1, 0, none⟩))), (7, .lit (.pointer (some ⟨b7, 0, none⟩))), (8, .lit v8), (87, .sl 4 Disk.cells ds), (88, .i ((4 : Nat) : Int)), (89, .i (i : Int))] E ∧ σ = []) ?_ ?_
        · refine CW.block ?_
          refine CW.seq ?_
          refine CW.region ?_
          refine RW.p rfl rfl rfl (Yp.indexSl rfl rfl rfl Try.underlying54 sz26 (by omega)) ?_
          refine RW.p rfl rfl rfl (Yp.loadFN rfl rfl many26 (Nat.le_of_ble_eq_true rfl)) ?_
          refine RW.v rfl rfl rfl (Yv.alloc rfl zerb26) ?_
          rintro _ _ ⟨b21, rfl, rfl⟩
          refine RW.u rfl rfl (Yu.storeB 0 rfl rfl rfl rfl sz26 (Pw.p rfl) rfl (Nat.le_of_ble_eq_true rfl)) ?_
          refine RW.nil ?_
          obtain ⟨d, hd⟩ : ∃ d : Disk, d = ds[Int.toNat (i : Int)]! := ⟨_, rfl⟩
          rw [← hd]
          refine CW.seq ?_
          refine CW.cut (fun E σ => ∃ (ds : List Disk) (d : Disk), ds.length = 4 ∧ Sub [(1, .i p1), (2, .lit v2), (3, .lit (.pointer (some ⟨b1, 0, none⟩))), (7, .lit (.pointer (some ⟨b7, 0, none⟩))), (8, .lit v8), (87, .sl 4 Disk.cells ds), (88, .i ((4 : Nat) : Int)), (89, .i (i : Int)), (21, .lit (.pointer (some ⟨b21, 0, none⟩)))] E ∧ σ = [.box b21 26 (Disk.cells d)]) ?_ ?_
          · refine CW.seq ?_
            refine CW.region ?_
            refine RW.p rfl rfl rfl (Yp.fieldP rfl rfl Try.underlying26 rfl sz23) ?_
            refine RW.p rfl rfl rfl (Yp.loadB1 0 rfl rfl rfl one23 rfl) ?_
            refine RW.p rfl rfl rfl (Yp.lenSl rfl rfl Try.underlying23) ?_
            refine RW.p rfl rfl rfl (Yp.move rfl rfl) ?_
            refine RW.nil ?_
            refine CW.block ?_
            refine CW.lenS (l := d.fDurable) 94 rfl (fun hN1 => ?_)
            obtain ⟨N1, hN⟩ : ∃ N1, N1 = d.fDurable.length := ⟨_, rfl⟩
            refine CW.lp (fun k E σ => ∃ (ds : List Disk) (d : Disk) (ll : List (List Int)) (j : Nat), ds.length = 4 ∧ ll.length = N1 ∧ j + k = N1 + 1 ∧ Sub [(1, .i p1), (2, .lit v2), (3, .lit (.pointer (some ⟨b1, 0, none⟩))), (7, .lit (.pointer (some ⟨b7, 0, none⟩))), (8, .lit v8), (87, .sl 4 Disk.cells ds), (88, .i ((4 : Nat) : Int)), (89, .i (i : Int)), (21, .lit (.pointer (some ⟨b21, 0, none⟩))), (94, .sl 1 (cL 1 (cN .u8)) ll), (95, .i (N1 : Int)), (96, .i (j : Int))] E ∧ σ = [.box b21 26 (Disk.cells d)]) (N1 + 1) ?_ ?_
            · exact ⟨ds, d, d.fDurable, 0, hl, hN.symm, by omega, hN ▸ (Sub.cons rfl (Sub.cons rfl (Sub.cons rfl (Sub.cons rfl (Sub.cons rfl (Sub.cons rfl (Sub.cons rfl (Sub.cons rfl (Sub.cons rfl (Sub.cons rfl (Sub.cons rfl (Sub.cons rfl (Sub.nil))))))))))))), rfl⟩
            · rintro k E σ ⟨ds, d, ll, j, hl, hl2, hk, hsub, rfl⟩
              refine CW.weak ?_ hsub
              refine CW.seq ?_
              refine CW.region ?_
              refine RW.p rfl rfl rfl (Yp.lss rfl rfl rfl) ?_
              refine RW.nil ?_
              refine CW.seq ?_
              refine CW.cond rfl (fun hb1 => ?_) (fun hb1 => ?_)
              · have hj : j < N1 := by
                  have := of_decide_eq_true hb1
                  omega
                refine CW.skip ?_
                refine CW.seq ?_
                refine CW.cut (fun E σ => ∃ (ds : List Disk) (d : Disk) (ll : List (List Int)), ds.length = 4 ∧ ll.length = N1 ∧ Sub [(1, .i p1), (2, .lit v2), (3, .lit (.pointer (some ⟨b1, 0, none⟩))), (7, .lit (.pointer (some ⟨b7, 0, none⟩))), (8, .lit v8), (87, .sl 4 Disk.cells ds), (88, .i ((4 : Nat) : Int)), (89, .i (i : Int)), (21, .lit (.pointer (some ⟨b21, 0, none⟩))), (94, .sl 1 (cL 1 (cN .u8)) ll), (95, .i (N1 : Int)), (96, .i (j : Int))] E ∧ σ = [.box b21 26 (Disk.cells d)]) ?_ ?_
                · refine CW.block ?_
                  refine CW.seq ?_
                  refine CW.region ?_
                  refine RW.p rfl rfl rfl (Yp.indexSl rfl rfl rfl Try.underlying23 sz29 (by omega)) ?_
                  refine RW.p rfl rfl rfl (Yp.loadF1 rfl rfl one29 rfl) ?_
                  refine RW.p rfl rfl rfl (Yp.assign rfl rfl) ?_
                  refine RW.nil ?_
                  refine CW.seq ?_
                  refine CW.region ?_
                  refine RW.p rfl rfl rfl (Yp.move rfl rfl) ?_
                  refine RW.p rfl rfl rfl (Yp.lenSl rfl rfl Try.underlying29) ?_
                  refine RW.p rfl rfl rfl (Yp.move rfl rfl) ?_
                  refine RW.nil ?_
                  refine CW.block ?_
                  refine CW.lenS (l := ll[Int.toNat (j : Int)]!) 23 rfl (fun hN2 => ?_)
                  obtain ⟨by0, hby⟩ : ∃ l : List Int, l = ll[Int.toNat (j : Int)]! := ⟨_, rfl⟩
                  rw [← hby] at hN2 ⊢
                  obtain ⟨N2, hNN⟩ : ∃ N2, N2 = by0.length := ⟨_, rfl⟩
                  refine CW.lp (fun k E σ => ∃ (ds : List Disk) (d : Disk) (ll : List (List Int)) (l : List Int) (m : Nat), ds.length = 4 ∧ ll.length = N1 ∧ l.length = N2 ∧ m + k = N2 + 1 ∧ Sub [(1, .i p1), (2, .lit v2), (3, .lit (.pointer (some ⟨b1, 0, none⟩))), (7, .lit (.pointer (some ⟨b7, 0, none⟩))), (8, .lit v8), (87, .sl 4 Disk.cells ds), (88, .i ((4 : Nat) : Int)), (89, .i (i : Int)), (21, .lit (.pointer (some ⟨b21, 0, none⟩))), (94, .sl 1 (cL 1 (cN .u8)) ll), (95, .i (N1 : Int)), (96, .i (j : Int)), (23, .sl 1 (cN .u8) l), (101, .i (N2 : Int)), (102, .i (m : Int))] E ∧ σ = [.box b21 26 (Disk.cells d)]) (N2 + 1) ?_ ?_
                  · exact ⟨ds, d, ll, by0, 0, hl, hl2, hNN.symm, by omega, hNN ▸ (Sub.cons rfl (Sub.cons rfl (Sub.cons rfl (Sub.cons rfl (Sub.cons rfl (Sub.cons rfl (Sub.cons rfl (Sub.cons rfl (Sub.cons rfl (Sub.cons rfl (Sub.cons rfl (Sub.cons rfl (Sub.cons rfl (Sub.cons rfl (Sub.cons rfl (Sub.nil)))))))))))))))), rfl⟩
                  · rintro k E σ ⟨ds, d, ll, l, m, hl, hl2, hl3, hk, hsub, rfl⟩
                    refine CW.weak ?_ hsub
                    refine CW.seq ?_
                    refine CW.region ?_
                    refine RW.p rfl rfl rfl (Yp.lss rfl rfl rfl) ?_
                    refine RW.nil ?_
                    refine CW.seq ?_
                    refine CW.cond rfl (fun hb1 => ?_) (fun hb1 => ?_)
                    · have hm : m < N2 := by
                        have := of_decide_eq_true hb1
                        omega
                      refine CW.skip ?_
                      refine CW.seq ?_
                      refine CW.block ?_
                      refine CW.seq ?_
                      refine CW.region ?_
                      refine RW.p rfl rfl rfl (Yp.move rfl rfl) ?_
                      refine RW.p rfl rfl rfl (Yp.assign rfl rfl) ?_
                      refine RW.nil ?_
                      refine CW.region ?_
                      refine RW.p rfl rfl rfl (Yp.move rfl rfl) ?_
                      refine RW.p rfl rfl rfl (Yp.move rfl rfl) ?_
                      refine RW.p rfl rfl rfl (Yp.indexSl rfl rfl rfl Try.underlying29 sz5 (by omega)) ?_
                      refine RW.p rfl rfl rfl (Yp.loadF1 rfl rfl one5 rfl) ?_
                      refine RW.p rfl rfl rfl (Yp.xor rfl rfl rfl) ?_
                      refine RW.p rfl rfl rfl (Yp.indexSl rfl rfl rfl Try.underlying29 sz5 (by omega)) ?_
                      refine RW.u8 [(1, Kd.lit (.int .i64 p1)), (2, Kd.lit v2), (3, Kd.lit (.pointer (some ⟨b1, 0, none⟩))), (7, Kd.lit (.pointer (some ⟨b7, 0, none⟩))), (8, Kd.lit v8), (88, Kd.lit (.int .i64 ((4 : Nat) : Int))), (89, Kd.lit (.int .i64 (i : Int))), (21, Kd.lit (.pointer (some ⟨b21, 0, none⟩))), (95, Kd.lit (.int .i64 (N1 : Int))), (96, Kd.lit (.int .i64 (j : Int))), (101, Kd.lit (.int .i64 (N2 : Int))), (102, Kd.lit (.int .i64 (m : Int))), (87, .dks ds), (94, .bys ll), (23, .byt l)] [(b21, 26, [.bys d.fDurable, .wrs d.fPending, .lit (.int .i64 d.fLeft), .lit (.bool d.fDown)])] hA hO h0 rfl rfl rfl rfl rfl sz5 (by simp) (Sub.cons rfl (Sub.cons rfl (Sub.cons rfl (Sub.cons rfl (Sub.cons rfl (Sub.cons rfl (Sub.cons rfl (Sub.cons rfl (Sub.cons rfl (Sub.cons rfl (Sub.cons rfl (Sub.cons rfl (Sub.cons rfl (Sub.cons rfl (Sub.cons rfl (Sub.nil)))))))))))))))) ?_
                      rintro _ _ ⟨_, _, rfl, rfl, _, _, rfl, rfl, _, _, rfl, rfl, _, _, rfl, rfl, _, _, rfl, rfl, _, _, rfl, rfl, _, _, rfl, rfl, _, _, rfl, rfl, _, _, rfl, rfl, _, _, rfl, rfl, _, _, rfl, rfl, _, _, rfl, rfl, _, _, rfl, ⟨ds', rfl, e1⟩, _, _, rfl, ⟨ll', rfl, e2⟩, _, _, rfl, ⟨l', rfl, e3⟩, rfl⟩ ⟨_, _, rfl, ⟨_, _, rfl, ⟨du', rfl, e4⟩, _, _, rfl, ⟨pe', rfl, e5⟩, _, _, rfl, rfl, _, _, rfl, rfl, rfl⟩, rfl⟩
                      refine RW.nil ?_
                      refine CW.region ?_
                      refine RW.p rfl rfl rfl (Yp.add rfl rfl rfl) ?_
                      refine RW.p rfl rfl rfl (Yp.move rfl rfl) ?_
                      refine RW.eqv 102 rfl (congrArg AV.i (w64n (by omega) hm)) ?_
                      refine RW.nil ?_
                      refine ⟨k - 1, by omega, ds', ⟨du', pe', d.fLeft, d.fDown⟩, ll', l', m + 1, by omega, by omega, by omega, by omega, (Sub.cons rfl (Sub.cons rfl (Sub.cons rfl (Sub.cons rfl (Sub.cons rfl (Sub.cons rfl (Sub.cons rfl (Sub.cons rfl (Sub.cons rfl (Sub.cons rfl (Sub.cons rfl (Sub.cons rfl (Sub.cons rfl (Sub.cons rfl (Sub.cons rfl (Sub.nil)))))))))))))))), rfl⟩
                    · refine CW.exit ?_
                      exact ⟨ds, d, ll, hl, hl2, (Sub.cons rfl (Sub.cons rfl (Sub.cons rfl (Sub.cons rfl (Sub.cons rfl (Sub.cons rfl (Sub.cons rfl (Sub.cons rfl (Sub.cons rfl (Sub.cons rfl (Sub.cons rfl (Sub.cons rfl (Sub.nil))))))))))))), rfl⟩
                rintro E σ ⟨ds, d, ll, hl, hl2, hsub, rfl⟩
                refine CW.weak ?_ hsub
                refine CW.region ?_
                refine RW.p rfl rfl rfl (Yp.add rfl rfl rfl) ?_
                refine RW.p rfl rfl rfl (Yp.move rfl rfl) ?_
                refine RW.eqv 96 rfl (congrArg AV.i (w64n (by omega) hj)) ?_
                refine RW.nil ?_
                exact ⟨k - 1, by omega, ds, d, ll, j + 1, hl, hl2, by omega, (Sub.cons rfl (Sub.cons rfl (Sub.cons rfl (Sub.cons rfl (Sub.cons rfl (Sub.cons rfl (Sub.cons rfl (Sub.cons rfl (Sub.cons rfl (Sub.cons rfl (Sub.cons rfl (Sub.cons rfl (Sub.nil))))))))))))), rfl⟩
              · refine CW.exit ?_
                exact ⟨ds, d, hl, (Sub.cons rfl (Sub.cons rfl (Sub.cons rfl (Sub.cons rfl (Sub.cons rfl (Sub.cons rfl (Sub.cons rfl (Sub.cons rfl (Sub.cons rfl (Sub.nil)))))))))), rfl⟩
          rintro E σ ⟨ds, d, hl, hsub, rfl⟩
          refine CW.weak ?_ hsub
          refine CW.seq ?_
          refine CW.region ?_
          refine RW.p rfl rfl rfl (Yp.fieldP rfl rfl Try.underlying26 rfl sz24) ?_
          refine RW.p rfl rfl rfl (Yp.loadB1 0 rfl rfl rfl one24 rfl) ?_
          refine RW.p rfl rfl rfl (Yp.lenSl rfl rfl Try.underlying24) ?_
          refine RW.p rfl rfl rfl (Yp.move rfl rfl) ?_
          refine RW.nil ?_
          refine CW.block ?_
          refine CW.lenS (l := d.fPending) 114 rfl (fun hN1 => ?_)
          obtain ⟨N1, hN⟩ : ∃ N1, N1 = d.fPending.length := ⟨_, rfl⟩
          refine CW.sel [] rfl ?_
          refine CW.lp (fun k E σ => ∃ (ds : List Disk) (ll : List Write) (j : Nat), ds.length = 4 ∧ ll.length = N1 ∧ j + k = N1 + 1 ∧ Sub [(1, .i p1), (2, .lit v2), (3, .lit (.pointer (some ⟨b1, 0, none⟩))), (7, .lit (.pointer (some ⟨b7, 0, none⟩))), (8, .lit v8), (87, .sl 4 Disk.cells ds), (88, .i ((4 : Nat) : Int)), (89, .i (i : Int)), (114, .sl 2 Write.cells ll), (115, .i (N1 : Int)), (116, .i (j : Int))] E ∧ σ = []) (N1 + 1) ?_ ?_
          · exact ⟨ds, d.fPending, 0, hl, hN.symm, by omega, hN ▸ (Sub.cons rfl (Sub.cons rfl (Sub.cons rfl (Sub.cons rfl (Sub.cons rfl (Sub.cons rfl (Sub.cons rfl (Sub.cons rfl (Sub.cons rfl (Sub.cons rfl (Sub.cons rfl (Sub.nil)))))))))))), rfl⟩
          · rintro k E σ ⟨ds, ll, j, hl, hl2, hk, hsub, rfl⟩
            refine CW.weak ?_ hsub
            refine CW.seq ?_
            refine CW.region ?_
            refine RW.p rfl rfl rfl (Yp.lss rfl rfl rfl) ?_
            refine RW.nil ?_
            refine CW.seq ?_
            refine CW.cond rfl (fun hb1 => ?_) (fun hb1 => ?_)
            · have hj : j < N1 := by
                have := of_decide_eq_true hb1
                omega
              refine CW.skip ?_
              refine CW.seq ?_
              refine CW.cut (fun E σ => ∃ (ds : List Disk) (ll : List Write), ds.length = 4 ∧ ll.length = N1 ∧ Sub [(1, .i p1), (2, .lit v2), (3, .lit (.pointer (some ⟨b1, 0, none⟩))), (7, .lit (.pointer (some ⟨b7, 0, none⟩))), (8, .lit v8), (87, .sl 4 Disk.cells ds), (88, .i ((4 : Nat) : Int)), (89, .i (i : Int)), (114, .sl 2 Write.cells ll), (115, .i (N1 : Int)), (116, .i (j : Int))] E ∧ σ = []) ?_ ?_
              · refine CW.block ?_
                refine CW.seq ?_
                refine CW.region ?_
                refine RW.p rfl rfl rfl (Yp.indexSl rfl rfl rfl Try.underlying24 sz56 (by omega)) ?_
                refine RW.p rfl rfl rfl (Yp.loadFN rfl rfl many56 (Nat.le_of_ble_eq_true rfl)) ?_
                refine RW.v rfl rfl rfl (Yv.alloc rfl zerb56) ?_
                rintro _ _ ⟨b26, rfl, rfl⟩
                refine RW.u rfl rfl (Yu.storeB 0 rfl rfl rfl rfl sz56 (Pw.p rfl) rfl (Nat.le_of_ble_eq_true rfl)) ?_
                refine RW.nil ?_
                obtain ⟨x0, hx0⟩ : ∃ x : Write, x = ll[Int.toNat (j : Int)]! := ⟨_, rfl⟩
                rw [← hx0]
                refine CW.seq ?_
                refine CW.region ?_
                refine RW.p rfl rfl rfl (Yp.fieldP rfl rfl Try.underlying56 rfl sz29) ?_
                refine RW.p rfl rfl rfl (Yp.loadB1 0 rfl rfl rfl one29 rfl) ?_
                refine RW.p rfl rfl rfl (Yp.lenSl rfl rfl Try.underlying29) ?_
                refine RW.p rfl rfl rfl (Yp.move rfl rfl) ?_
                refine RW.nil ?_
                refine CW.block ?_
                refine CW.lenS (l := x0.fData) 121 rfl (fun hN2 => ?_)
                obtain ⟨N2, hNN⟩ : ∃ N2, N2 = x0.fData.length := ⟨_, rfl⟩
                refine CW.lp (fun k E σ => ∃ (ds : List Disk) (ll : List Write) (x : Write) (m : Nat), ds.length = 4 ∧ ll.length = N1 ∧ x.fData.length = N2 ∧ m + k = N2 + 1 ∧ Sub [(1, .i p1), (2, .lit v2), (3, .lit (.pointer (some ⟨b1, 0, none⟩))), (7, .lit (.pointer (some ⟨b7, 0, none⟩))), (8, .lit v8), (87, .sl 4 Disk.cells ds), (88, .i ((4 : Nat) : Int)), (89, .i (i : Int)), (114, .sl 2 Write.cells ll), (115, .i (N1 : Int)), (116, .i (j : Int)), (26, .lit (.pointer (some ⟨b26, 0, none⟩))), (122, .i (N2 : Int)), (123, .i (m : Int))] E ∧ σ = [.box b26 56 (Write.cells x)]) (N2 + 1) ?_ ?_
                · exact ⟨ds, ll, x0, 0, hl, hl2, hNN.symm, by omega, hNN ▸ (Sub.cons rfl (Sub.cons rfl (Sub.cons rfl (Sub.cons rfl (Sub.cons rfl (Sub.cons rfl (Sub.cons rfl (Sub.cons rfl (Sub.cons rfl (Sub.cons rfl (Sub.cons rfl (Sub.cons rfl (Sub.cons rfl (Sub.cons rfl (Sub.nil))))))))))))))), rfl⟩
                · rintro k E σ ⟨ds, ll, x, m, hl, hl2, hl3, hk, hsub, rfl⟩
                  refine CW.weak ?_ hsub
                  refine CW.seq ?_
                  refine CW.region ?_
                  refine RW.p rfl rfl rfl (Yp.lss rfl rfl rfl) ?_
                  refine RW.nil ?_
                  refine CW.seq ?_
                  refine CW.cond rfl (fun hb1 => ?_) (fun hb1 => ?_)
                  · have hm : m < N2 := by
                      have := of_decide_eq_true hb1
                      omega
                    refine CW.skip ?_
                    refine CW.seq ?_
                    refine CW.block ?_
                    refine CW.seq ?_
                    refine CW.region ?_
                    refine RW.p rfl rfl rfl (Yp.move rfl rfl) ?_
                    refine RW.p rfl rfl rfl (Yp.assign rfl rfl) ?_
                    refine RW.nil ?_
                    refine CW.region ?_
                    refine RW.p rfl rfl rfl (Yp.fieldP rfl rfl Try.underlying56 rfl sz29) ?_
                    refine RW.p rfl rfl rfl (Yp.loadB1 0 rfl rfl rfl one29 rfl) ?_
                    refine RW.p rfl rfl rfl (Yp.move rfl rfl) ?_
                    refine RW.p rfl rfl rfl (Yp.indexSl rfl rfl rfl Try.underlying29 sz5 (by omega)) ?_
                    refine RW.p rfl rfl rfl (Yp.loadF1 rfl rfl one5 rfl) ?_
                    refine RW.p rfl rfl rfl (Yp.xor rfl rfl rfl) ?_
                    refine RW.p rfl rfl rfl (Yp.indexSl rfl rfl rfl Try.underlying29 sz5 (by omega)) ?_
                    refine RW.u8 [(1, Kd.lit (.int .i64 p1)), (2, Kd.lit v2), (3, Kd.lit (.pointer (some ⟨b1, 0, none⟩))), (7, Kd.lit (.pointer (some ⟨b7, 0, none⟩))), (8, Kd.lit v8), (88, Kd.lit (.int .i64 ((4 : Nat) : Int))), (89, Kd.lit (.int .i64 (i : Int))), (26, Kd.lit (.pointer (some ⟨b26, 0, none⟩))), (115, Kd.lit (.int .i64 (N1 : Int))), (116, Kd.lit (.int .i64 (j : Int))), (122, Kd.lit (.int .i64 (N2 : Int))), (123, Kd.lit (.int .i64 (m : Int))), (87, .dks ds), (114, .wrs ll)] [(b26, 56, [.lit (.int .i64 x.fAt), .byt x.fData])] hA hO h0 rfl rfl rfl rfl rfl sz5 (by simp) (Sub.cons rfl (Sub.cons rfl (Sub.cons rfl (Sub.cons rfl (Sub.cons rfl (Sub.cons rfl (Sub.cons rfl (Sub.cons rfl (Sub.cons rfl (Sub.cons rfl (Sub.cons rfl (Sub.cons rfl (Sub.cons rfl (Sub.cons rfl (Sub.nil))))))))))))))) ?_
                    rintro _ _ ⟨_, _, rfl, rfl, _, _, rfl, rfl, _, _, rfl, rfl, _, _, rfl, rfl, _, _, rfl, rfl, _, _, rfl, rfl, _, _, rfl, rfl, _, _, rfl, rfl, _, _, rfl, rfl, _, _, rfl, rfl, _, _, rfl, rfl, _, _, rfl, rfl, _, _, rfl, ⟨ds', rfl, e1⟩, _, _, rfl, ⟨ll', rfl, e2⟩, rfl⟩ ⟨_, _, rfl, ⟨_, _, rfl, rfl, _, _, rfl, ⟨da', rfl, e5⟩, rfl⟩, rfl⟩
                    refine RW.nil ?_
                    refine CW.region ?_
                    refine RW.p rfl rfl rfl (Yp.add rfl rfl rfl) ?_
                    refine RW.p rfl rfl rfl (Yp.move rfl rfl) ?_
                    refine RW.eqv 123 rfl (congrArg AV.i (w64n (by omega) hm)) ?_
                    refine RW.nil ?_
                    refine ⟨k - 1, by omega, ds', ll', ⟨x.fAt, da'⟩, m + 1, by omega, by omega, by rw [← hl3]; exact e5, by omega, (Sub.cons rfl (Sub.cons rfl (Sub.cons rfl (Sub.cons rfl (Sub.cons rfl (Sub.cons rfl (Sub.cons rfl (Sub.cons rfl (Sub.cons rfl (Sub.cons rfl (Sub.cons rfl (Sub.cons rfl (Sub.cons rfl (Sub.cons rfl (Sub.nil))))))))))))))), rfl⟩
                  · refine CW.sel [] rfl ?_
                    refine CW.exit ?_
                    exact ⟨ds, ll, hl, hl2, (Sub.cons rfl (Sub.cons rfl (Sub.cons rfl (Sub.cons rfl (Sub.cons rfl (Sub.cons rfl (Sub.cons rfl (Sub.cons rfl (Sub.cons rfl (Sub.cons rfl (Sub.cons rfl (Sub.nil)))))))))))), rfl⟩
              rintro E σ ⟨ds, ll, hl, hl2, hsub, rfl⟩
              refine CW.weak ?_ hsub
              refine CW.region ?_
              refine RW.p rfl rfl rfl (Yp.add rfl rfl rfl) ?_
              refine RW.p rfl rfl rfl (Yp.move rfl rfl) ?_
              refine RW.eqv 116 rfl (congrArg AV.i (w64n (by omega) hj)) ?_
              refine RW.nil ?_
              exact ⟨k - 1, by omega, ds, ll, j + 1, hl, hl2, by omega, (Sub.cons rfl (Sub.cons rfl (Sub.cons rfl (Sub.cons rfl (Sub.cons rfl (Sub.cons rfl (Sub.cons rfl (Sub.cons rfl (Sub.cons rfl (Sub.cons rfl (Sub.cons rfl (Sub.nil)))))))))))), rfl⟩
            · refine CW.exit ?_
              exact ⟨ds, hl, (Sub.cons rfl (Sub.cons rfl (Sub.cons rfl (Sub.cons rfl (Sub.cons rfl (Sub.cons rfl (Sub.cons rfl (Sub.cons rfl (Sub.nil))))))))), rfl⟩
        rintro E σ ⟨ds, hl, hsub, rfl⟩
        refine CW.weak ?_ hsub
        refine CW.region ?_
        refine RW.p rfl rfl rfl (Yp.add rfl rfl rfl) ?_
        refine RW.p rfl rfl rfl (Yp.move rfl rfl) ?_
        refine RW.eqv 89 rfl (congrArg AV.i (w64n (len := 4) (by decide) hi)) ?_
        refine RW.nil ?_
        exact ⟨k - 1, by omega, ds, i + 1, hl, by omega, (Sub.cons rfl (Sub.cons rfl (Sub.cons rfl (Sub.cons rfl (Sub.cons rfl (Sub.cons rfl (Sub.cons rfl (Sub.cons rfl (Sub.nil))))))))), rfl⟩
      · refine CW.exit ?_
        exact ⟨(Sub.cons rfl (Sub.cons rfl (Sub.cons rfl (Sub.cons rfl (Sub.cons rfl (Sub.nil)))))), rfl⟩
  rintro E σ ⟨hsub, rfl⟩
  refine CW.weak ?_ hsub
  refine CW.seq ?_
  refine CW.region ?_
  refine RW.v rfl rfl rfl (Yv.loadOL hO hc1 rfl rfl many26) ?_
  rintro _ _ ⟨rfl, rfl⟩
  refine RW.v rfl rfl rfl (Yv.loadOL hO hc7 rfl rfl many26) ?_
  rintro _ _ ⟨rfl, rfl⟩
  refine RW.c rfl rfl rfl (Yc.det hO (Det.agg (Det.lits [e1, e2, .int .i64 p0.fLeft, .bool p0.fDown]) (Det.agg (Det.lits [e5, e6, .int .i64 p0.fLeft, .bool p0.fDown]) Det.nil)) (RelL.cons hd1 (RelL.cons hd7 RelL.nil)) rfl rfl ok21 rfl rfl (f21 p0 p0 h21)) ?_
  rintro _ _ ⟨_, ⟨rfl, rfl⟩, rfl⟩
  refine RW.p rfl rfl rfl (Yp.move rfl rfl) ?_
  refine RW.p rfl rfl rfl (Yp.move rfl rfl) ?_
  refine RW.p rfl rfl rfl (Yp.move rfl rfl) ?_
  refine RW.c rfl rfl rfl (Yc.det hO (Det.lit (Det.lit Det.nil)) (RelL.cons hv2 (RelL.cons hv8 RelL.nil)) rfl rfl ok14 rfl rfl (f14 p2 p2 h14)) ?_
  rintro _ _ ⟨_, ⟨rfl, rfl⟩, rfl⟩
  refine RW.p rfl rfl rfl (Yp.pickT rfl rfl rfl) ?_
  refine RW.p rfl rfl rfl (Yp.assign rfl rfl) ?_
  refine RW.nil ?_
  refine CW.ret ?_
  exact ⟨rfl, rfl⟩

theorem m10_ok (p0 : Disk) (p1 : Int) (p2 : List Int) {b : Bool} (h16 : m16 p0 = some b) (hf : b = true → p2.length ≤ 200 → ∃ x17 x19 x22 x23 x24, m30 p0 = some p0 ∧ m31 p2 = some p2 ∧ m17 p0 p1 = some x17 ∧ m19 p0 p1 p2 = some x19 ∧ m22 p0 = some x22 ∧ m23 p0 3 = some x23 ∧ m24 p0 [true, true] = some x24 ∧ m21 p0 p0 = some true ∧ m14 p2 p2 = some true) :
    Ab.Fn Try.prog 10 [.agg [.sl 1 (cL 1 (cN .u8)) p0.fDurable, .sl 2 Write.cells p0.fPending, .i p0.fLeft, .b p0.fDown], .i p1, .sl 1 (cN .u8) p2] [] (fun a s => a = .b true ∧ s = []) := by
  refine Ab.Fn.ofD Try.func10 rfl rfl rfl (fun C => ?_)
  refine CWd.seq ?_
  refine CWd.region ?_
  refine RW.v rfl rfl rfl (Yv.box rfl rfl (Pw.p rfl)) ?_
  rintro _ _ ⟨b1, rfl, rfl⟩
  refine RW.p rfl rfl rfl (Yp.assign rfl rfl) ?_
  refine RW.nil ?_
  refine CWd.seq ?_
  refine CWd.seq ?_
  refine CWd.region ?_
  refine RW.c rfl rfl rfl (Yc.fnV (σp := []) (args' := []) rfl rfl ok11 rfl rfl rfl (VwL.id _) (m11_ok m11_eq)) ?_
  rintro _ _ ⟨_, ⟨rfl, rfl⟩, rfl⟩
  refine RW.p rfl rfl rfl (Yp.not rfl rfl) ?_
  refine RW.nil ?_
  refine CWd.cond rfl (fun hb1 => by cases hb1) (fun _ => ?_)
  refine CWd.skip ?_
  refine CWd.seq ?_
  refine CWd.seq ?_
  refine CWd.cut (fun E σ => ∃ c1 : Bool, (c1 = false → b = true ∧ p2.length ≤ 200) ∧ Sub [(1, .i p1), (2, .sl 1 (cN .u8) p2), (3, .lit (.pointer (some ⟨b1, 0, none⟩))), (6, .b false), (37, .b c1)] E ∧ σ = [.box b1 26 (Disk.cells p0)]) ?_ ?_
  · refine CWd.region ?_
    refine RW.p rfl rfl rfl (Yp.loadBN 0 rfl rfl rfl many26 (Nat.le_of_ble_eq_true rfl)) ?_
    refine RW.c rfl rfl rfl (Yc.fnV (σp := []) (args' := [.agg [.sl 1 (cL 1 (cN .u8)) p0.fDurable, .sl 2 Write.cells p0.fPending, .i p0.fLeft, .b p0.fDown]]) rfl rfl ok16 rfl rfl rfl (VwL.id _) (m16_ok p0 h16)) ?_
    rintro _ _ ⟨_, ⟨rfl, rfl⟩, rfl⟩
    refine RW.p rfl rfl rfl (Yp.not rfl rfl) ?_
    refine RW.p rfl rfl rfl (Yp.move rfl rfl) ?_
    rcases Bool.eq_false_or_eq_true (!b) with hb2 | hb2
    · refine RW.eqv 33 rfl (congrArg AV.b hb2) ?_
      refine RW.skip rfl rfl rfl ?_
      refine RW.skip rfl rfl rfl ?_
      refine RW.skip rfl rfl rfl ?_
      refine RW.p rfl rfl rfl (Yp.pickT rfl rfl rfl) ?_
      refine RW.nil ?_
      exact ⟨true, (fun h => by cases h), (Sub.cons rfl (Sub.cons rfl (Sub.cons rfl (Sub.cons rfl (Sub.cons rfl (Sub.nil)))))), rfl⟩
    · refine RW.eqv 33 rfl (congrArg AV.b hb2) ?_
      refine RW.p rfl rfl rfl (Yp.move rfl rfl) ?_
      refine RW.p rfl rfl rfl (Yp.lenSl rfl rfl Try.underlying29) ?_
      refine RW.p rfl rfl rfl (Yp.gtr rfl rfl rfl) ?_
      refine RW.p rfl rfl rfl (Yp.pickF rfl rfl rfl) ?_
      refine RW.nil ?_
      exact ⟨_, (fun h => ⟨by simpa using hb2, by simp only [decide_eq_false_iff_not] at h; omega⟩), (Sub.cons rfl (Sub.cons rfl (Sub.cons rfl (Sub.cons rfl (Sub.cons rfl (Sub.nil)))))), rfl⟩
  rintro E σ ⟨c1, hc1, hsub1, rfl⟩
  refine CWd.weak ?_ hsub1
  refine CWd.cond rfl (fun hb3 => ?_) (fun hb3 => ?_)
  · refine CWd.seq ?_
    refine CWd.region ?_
    refine RW.p rfl rfl rfl (Yp.assign rfl rfl) ?_
    refine RW.nil ?_
    refine CWd.ret ?_
    exact fin1 (.inr rfl) rfl (ResIs.tmp rfl) (List.nil_sublist _) ⟨rfl, rfl⟩
  refine CWd.skip ?_
  obtain ⟨hb, hp2⟩ := hc1 hb3
  obtain ⟨x17, x19, x22, x23, x24, h30, h31, h17, h19, h22, h23, h24, h21, h14⟩ := hf hb hp2
  refine CWd.seq ?_
  refine CWd.region ?_
  refine RW.p rfl rfl rfl (Yp.loadBN 0 rfl rfl rfl many26 (Nat.le_of_ble_eq_true rfl)) ?_
  refine RW.c rfl rfl rfl (Yc.fnV (σp := []) (args' := [.agg [.sl 1 (cL 1 (cN .u8)) p0.fDurable, .sl 2 Write.cells p0.fPending, .i p0.fLeft, .b p0.fDown]]) rfl rfl ok30 rfl rfl rfl (VwL.id _) (m30_ok p0 h30)) ?_
  rintro _ _ ⟨_, ⟨rfl, rfl⟩, rfl⟩
  refine RW.p rfl rfl rfl (Yp.move rfl rfl) ?_
  refine RW.c rfl rfl rfl (Yc.fnV (σp := []) (args' := [.sl 1 (cN .u8) p2]) rfl rfl ok31 rfl rfl rfl (VwL.id _) (m31_ok p2 h31)) ?_
  rintro _ _ ⟨_, ⟨rfl, rfl⟩, rfl⟩
  refine RW.v rfl rfl rfl (Yv.alloc rfl zerb26) ?_
  rintro _ _ ⟨b7, rfl, rfl⟩
  refine RW.u rfl rfl (Yu.storeB 0 rfl rfl rfl rfl sz26 (Pw.p rfl) rfl (Nat.le_of_ble_eq_true rfl)) ?_
  refine RW.p rfl rfl rfl (Yp.assign rfl rfl) ?_
  refine RW.nil ?_
  refine CWd.weak (E := [(1, .i p1), (2, .sl 1 (cN .u8) p2), (3, .lit (.pointer (some ⟨b1, 0, none⟩))), (7, .lit (.pointer (some ⟨b7, 0, none⟩))), (8, .sl 1 (cN .u8) p2)]) ?_ (Sub.cons rfl (Sub.cons rfl (Sub.cons rfl (Sub.cons rfl (Sub.cons rfl (Sub.nil))))))
  refine CWd.fresh (Q2 := fun e E _ => e = .ret ∧ Env.get E 6 = some (.b true)) (fun a w ha => ?_) ?_
  · obtain ⟨v1, ht1, hv1⟩ := ha.slots 1 _ rfl
    obtain rfl := hv1.litEq
    obtain ⟨v2, ht2, hv2⟩ := ha.slots 2 _ rfl
    obtain ⟨v3, ht3, hv3⟩ := ha.slots 3 _ rfl
    obtain rfl := hv3.litEq
    obtain ⟨v7, ht7, hv7⟩ := ha.slots 7 _ rfl
    obtain rfl := hv7.litEq
    obtain ⟨v8, ht8, hv8⟩ := ha.slots 8 _ rfl
    obtain ⟨us1, hB1, hr1⟩ := ha.good.res _ (List.mem_cons_of_mem _ (List.mem_cons_self ..))
    obtain ⟨us7, hB7, hr7⟩ := ha.good.res _ (List.mem_cons_self ..)
    have all : ∀ {A : Nat → Prop}, ∀ b, b < w.heap.size → A b → allA b ∧ w.heap[b]? = w.heap[b]? := fun _ _ _ => ⟨trivial, rfl⟩
    refine ⟨[(1, .i p1), (2, .lit v2), (3, .lit (.pointer (some ⟨b1, 0, none⟩))), (7, .lit (.pointer (some ⟨b7, 0, none⟩))), (8, .lit v8)], fun t v ht => ?_, ?_⟩
    · have key : ∀ (l : Env) , (∀ q ∈ l, ∃ u, q.2 = .lit u ∧ a.tmps[q.1]? = some u) → ∀ t v, Env.get l t = some v → ∃ u, v = .lit u ∧ a.tmps[t]? = some u := fun l => by
        induction l with
        | nil => intro _ t v h; cases h
        | cons q l ih =>
          intro h t v ht
          by_cases hq : q.1 = t
          · obtain ⟨u, h1, h2⟩ := h q (List.mem_cons_self ..)
            subst hq
            have : Env.get (q :: l) q.1 = some q.2 := Env.get_hit _ _ _
            rw [this] at ht; cases ht
            exact ⟨u, h1, h2⟩
          · have : Env.get (q :: l) t = Env.get l t := Env.get_miss _ _ hq
            rw [this] at ht
            exact ih (fun q hq => h q (List.mem_cons_of_mem _ hq)) t v ht
      refine key _ (fun q hq => ?_) t v ht
      simp only [List.mem_cons, List.not_mem_nil, or_false] at hq
      rcases hq with rfl | rfl | rfl | rfl | rfl
      · exact ⟨_, rfl, ht1⟩
      · exact ⟨_, rfl, ht2⟩
      · exact ⟨_, rfl, ht3⟩
      · exact ⟨_, rfl, ht7⟩
      · exact ⟨_, rfl, ht8⟩
    exact tail10 (C := ⟨w, noA, []⟩) rfl (fun _ h => h) rfl (Nat.lt_of_le_of_lt (Nat.zero_le _) hB1.lt) h17 h19 h22 h23 h24 h21 h14 (fun j u hj => by rw [Nat.zero_add]; exact hB1.cell (by simpa using hj)) (hr1.mono all) (fun j u hj => by rw [Nat.zero_add]; exact hB7.cell (by simpa using hj)) (hr7.mono all) (hv2.mono all) (hv8.mono all)
  · rintro e E σ ⟨rfl, h6⟩
    refine ⟨by simp, [(6, .b true)], fun t v ht => ?_, ?_⟩
    · by_cases h : 6 = t
      · subst h; cases ht; exact ⟨_, rfl, h6⟩
      · rw [Env.get_miss _ _ h] at ht; cases ht
    · exact fin1 (.inr rfl) rfl (ResIs.tmp rfl) (List.nil_sublist _) ⟨rfl, rfl⟩
theorem law10 (d : Disk) (n : Int) (p : List Int) (h1 : d.fDurable.length ≤ big) (h2 : d.fPending.length ≤ big) : Ab.Fn Try.prog 10 [.agg [.sl 1 (cL 1 (cN .u8)) d.fDurable, .sl 2 Write.cells d.fPending, .i d.fLeft, .b d.fDown], .i n, .sl 1 (cN .u8) p] [] (fun a s => a = .b true ∧ s = []) := by
  obtain ⟨b, q1, q2⟩ := m16_some d h1 h2
  refine m10_ok d n p q1 (fun hb hp => ?_)
  have hs := q2 hb
  obtain ⟨x17, r17, _⟩ := read_pair d n h1 h2
  obtain ⟨x19, r19, _⟩ := write_pair d n p h1 h2
  obtain ⟨x22, r22, _⟩ := sync_eq d h1 h2
  obtain ⟨x23, r23, _⟩ := arm_eq d 3 h1 h2
  obtain ⟨x24, r24, _⟩ := crash_eq d [true, true] h1 h2
  exact ⟨x17, x19, x22, x23, x24, m30_eq hs, m31_eq (by omega), r17, r19, r22, r23, r24, m21_self d h1 h2, m14_self p⟩
end Go.Proofs.Ytfipaakafcjjhaa
