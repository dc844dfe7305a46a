/- Merge. -/
import Derived.Test.YtodeffidnipelaaM7
import Derived.Test.YtodeffidnipelaaT10
import Derived.Test.YtodeffidnipelaaT18
namespace Go.Proofs.Ytodeffidnipelaa
open Go.RowKit Go.Ev

theorem mif {α : Type} {i k : Nat} {a b : α} (h : i ≠ k) : (if i < k then a else b) = if i < k + 1 then a else b := by
  by_cases hik : i < k
  · rw [if_pos hik, if_pos (by omega)]
  · rw [if_neg hik, if_neg (by omega)]
theorem ok30 : fnOk Try.prog 30 := ⟨_, Try.func30, by kernel_rfl, rfl⟩
theorem ok31 : fnOk Try.prog 31 := ⟨_, Try.func31, by kernel_rfl, rfl⟩
theorem ok36 : fnOk Try.prog 36 := ⟨_, Try.func36, by kernel_rfl, rfl⟩
theorem ok52 : fnOk Try.prog 52 := ⟨_, Try.func52, by kernel_rfl, rfl⟩
theorem ok54 : fnOk Try.prog 54 := ⟨_, Try.func54, by kernel_rfl, rfl⟩
theorem c54_52 {w : World} {v : Value} {m : List Int} (hv : RInts 0 w.heap.size w v m) {q0 : Value} {g : Int → Bool} (HC : ∀ {W : World} {n : Int}, Below w.heap.size w W → Calls Try.prog 52 #[.int .i64 n, q0] W (Ret fun r w' => r = .bool (g n) ∧ Below W.heap.size W w')) :
    Calls Try.prog 54 #[v, .func (.func 52) #[] #[q0]] w (Ret fun r w' => r = .int .i64 (fidx g 0 m) ∧ Below w.heap.size w w') := by
  obtain ⟨p, c, rfl, hl⟩ := hv.form
  have hB0 : Below w.heap.size w w := Below.refl _ _
  refine Ev.calls (l := [.slice p m.length c, .func (.func 52) #[] #[q0]]) Try.func54 rfl rfl rfl ?_
  change CW _ _ _ _ [(0, .slice p m.length c), (1, .func (.func 52) #[] #[q0])] _
  refine CW.seq ?_
  refine CW.region ?_
  refine RW.yl rfl rfl rfl (Yl.assign rfl rfl) ?_
  refine RW.nil ?_
  change CW _ _ _ _ _ _
  refine CW.seq ?_
  refine CW.seq ?_
  refine CW.region ?_
  refine RW.yl rfl rfl rfl (Yl.move rfl rfl) ?_
  refine RW.yl rfl rfl rfl (Yl.len rfl rfl Try.underlying31) ?_
  refine RW.yl rfl rfl rfl (Yl.move rfl rfl) ?_
  refine RW.nil ?_
  change CW _ _ _ _ _ _
  refine CW.block ?_
  refine CW.loop1 (fun (k : Nat) => [(0, .slice p m.length c), (1, .func (.func 52) #[] #[q0]), (7, .int .i64 ((m.length : Nat) : Int)), (8, .int .i64 ((k : Nat) : Int))]) (fun k gm W => (gm = m.length - k) ∧ (k ≤ m.length) ∧ (fidx g 0 m = fidx g k (m.drop k)) ∧ (Below w.heap.size w W) ∧ (w.heap.size ≤ W.heap.size)) 0 (m.length - 0) ⟨rfl, (by first | assumption | omega | rfl | exact Eq.trans (by assumption) (fidx_no _ _ _ (by omega) (by assumption))), (by first | assumption | omega | rfl | exact Eq.trans (by assumption) (fidx_no _ _ _ (by omega) (by assumption))), hB0, (by omega)⟩ (Sub.cons rfl (Sub.cons rfl (Sub.cons rfl (Sub.cons rfl (Sub.nil))))) ?_
  intro k gm1 w1 hinv
  obtain ⟨hm1, hi1, hi2, hB1, hz1⟩ := hinv
  change CW _ _ _ _ [(0, .slice p m.length c), (1, .func (.func 52) #[] #[q0]), (7, .int .i64 ((m.length : Nat) : Int)), (8, .int .i64 ((k : Nat) : Int))] _
  refine CW.seq ?_
  refine CW.region ?_
  refine RW.yl rfl rfl rfl (Yl.lss rfl rfl rfl) ?_
  refine RW.nil ?_
  change CW _ _ _ _ _ _
  refine CW.seq ?_
  refine CW.cond rfl ?_ ?_
  ·
    intro hg1
    have hq2 := of_decide_eq_true hg1
    first
    | (exfalso; omega)
    | (
      refine CW.skip ?_
      change CW _ _ _ _ _ _
      refine CW.seq ?_
      refine CW.block ?_
      refine CW.seq ?_
      refine CW.region ?_
      refine RW.yl rfl rfl rfl (Yl.move rfl rfl) ?_
      refine RW.yl rfl rfl rfl (Yl.assign rfl rfl) ?_
      refine RW.nil ?_
      change CW _ _ _ _ _ _
      refine CW.seq ?_
      refine CW.region ?_
      refine RW.yl rfl rfl rfl (Yl.move rfl rfl) ?_
      refine RW.yl rfl rfl rfl (Yl.move rfl rfl) ?_
      refine RW.yl rfl rfl rfl (Yl.move rfl rfl) ?_
      obtain ⟨bx1, ox1, hp1, hl1, hh1, hc1⟩ := (hv.mono (kept_from hB0 hB1 (Nat.le_refl _))).at k (by omega)
      refine RW.yl rfl rfl rfl (Yl.indexAddr1 (k := k) rfl rfl rfl Try.underlying31 sz3 hp1 rfl (by omega)) ?_
      refine RW.yl rfl rfl rfl (Yl.load rfl rfl one3 hc1) ?_
      refine RW.fn rfl rfl rfl (Yc.closure #[.int .i64 (m[k]!), q0] rfl rfl ok52 (capt (args1 rfl) rfl)) (HC hB1) ?_
      rintro _ w2 ⟨rfl, H1⟩
      have hB2 := Bl.step hB1 H1
      have hz2 := H1.size
      refine RW.nil ?_
      change CW _ _ _ _ _ _
      refine CW.cond rfl ?_ ?_
      ·
        intro hg2
        first
        | (exfalso; omega)
        | (
          refine CW.seq ?_
          refine CW.region ?_
          refine RW.yl rfl rfl rfl (Yl.move rfl rfl) ?_
          refine RW.yl rfl rfl rfl (Yl.assign rfl rfl) ?_
          refine RW.nil ?_
          change CW _ _ _ _ _ _
          refine CW.ret ?_
          change FinQ _ _ _ _ _ _
          refine fin1 (.inr rfl) rfl rfl ?_
          exact ⟨_, rfl, ival (by first | exact (Eq.trans (by assumption) (fidx_yes _ _ _ (by omega) (by assumption))).symm | exact (Eq.trans (by assumption) (fidx_end _ _ _ (by omega))).symm), hB2⟩)
      ·
        intro hg3
        first
        | (exfalso; omega)
        | (
          refine CW.skip ?_
          change CW _ _ _ _ _ _
          refine CW.region ?_
          refine RW.yl rfl rfl rfl (Yl.addN (a := k) (b := 1) rfl rfl rfl (by omega)) ?_
          refine RW.yl rfl rfl rfl (Yl.move rfl rfl) ?_
          refine RW.nil ?_
          refine ⟨k + 1, m.length - (k + 1), by omega, ⟨rfl, (by first | assumption | omega | rfl | exact Eq.trans (by assumption) (fidx_no _ _ _ (by omega) (by assumption))), (by first | assumption | omega | rfl | exact Eq.trans (by assumption) (fidx_no _ _ _ (by omega) (by assumption))), hB2, (by omega)⟩, Sub.cons rfl (Sub.cons rfl (Sub.cons rfl (Sub.cons rfl (Sub.nil))))⟩))
  ·
    intro hg4
    have hq6 := of_decide_eq_false hg4
    first
    | (exfalso; omega)
    | (
      refine CW.exit ?_
      change CW _ _ _ _ _ _
      refine CW.seq ?_
      refine CW.region ?_
      refine RW.yl rfl rfl rfl (Yl.assign rfl rfl) ?_
      refine RW.nil ?_
      change CW _ _ _ _ _ _
      refine CW.ret ?_
      change FinQ _ _ _ _ _ _
      refine fin1 (.inr rfl) rfl rfl ?_
      exact ⟨_, rfl, ival (by first | exact (Eq.trans (by assumption) (fidx_yes _ _ _ (by omega) (by assumption))).symm | exact (Eq.trans (by assumption) (fidx_end _ _ _ (by omega))).symm), hB1⟩)

theorem c30_52 {w : World} {v : Value} {m : List Int} (hv : RInts 0 w.heap.size w v m) {q0 : Value} {g : Int → Bool} (HC : ∀ {W : World} {n : Int}, Below w.heap.size w W → Calls Try.prog 52 #[.int .i64 n, q0] W (Ret fun r w' => r = .bool (g n) ∧ Below W.heap.size W w')) :
    Calls Try.prog 30 #[v, .func (.func 52) #[] #[q0]] w (Ret fun r w' => r = .bool (m.any g) ∧ Below w.heap.size w w') := by
  obtain ⟨p, c, rfl, hl⟩ := hv.form
  have hB0 : Below w.heap.size w w := Below.refl _ _
  refine Ev.calls (l := [.slice p m.length c, .func (.func 52) #[] #[q0]]) Try.func30 rfl rfl rfl ?_
  change CW _ _ _ _ [(0, .slice p m.length c), (1, .func (.func 52) #[] #[q0])] _
  refine CW.seq ?_
  refine CW.region ?_
  refine RW.yl rfl rfl rfl (Yl.assign rfl rfl) ?_
  refine RW.nil ?_
  change CW _ _ _ _ _ _
  refine CW.seq ?_
  refine CW.region ?_
  refine RW.yl rfl rfl rfl (Yl.move rfl rfl) ?_
  refine RW.yl rfl rfl rfl (Yl.move rfl rfl) ?_
  refine RW.fn rfl rfl rfl (Yc.func #[.slice p m.length c, .func (.func 52) #[] #[q0]] rfl ok54 (args2 rfl rfl)) (c54_52 (hv.wide (Nat.zero_le _) (by omega)) HC) ?_
  rintro _ w1 ⟨rfl, H1⟩
  have hB1 := Bl.step hB0 H1
  have hz1 := H1.size
  refine RW.yl rfl rfl rfl (Yl.geq rfl rfl rfl) ?_
  refine RW.yl rfl rfl rfl (Yl.assign rfl rfl) ?_
  refine RW.nil ?_
  change CW _ _ _ _ _ _
  refine CW.ret ?_
  change FinQ _ _ _ _ _ _
  refine fin1 (.inr rfl) rfl rfl ?_
  exact ⟨_, rfl, bval (fidx_any g m 0), hB1⟩

theorem c54_31 {w : World} {v : Value} {m : List Int} (hv : RInts 0 w.heap.size w v m) {q0 : Value} {g : Int → Bool} (HC : ∀ {W : World} {n : Int}, Below w.heap.size w W → Calls Try.prog 31 #[.int .i64 n, q0] W (Ret fun r w' => r = .bool (g n) ∧ Below W.heap.size W w')) :
    Calls Try.prog 54 #[v, .func (.func 31) #[] #[q0]] w (Ret fun r w' => r = .int .i64 (fidx g 0 m) ∧ Below w.heap.size w w') := by
  obtain ⟨p, c, rfl, hl⟩ := hv.form
  have hB0 : Below w.heap.size w w := Below.refl _ _
  refine Ev.calls (l := [.slice p m.length c, .func (.func 31) #[] #[q0]]) Try.func54 rfl rfl rfl ?_
  change CW _ _ _ _ [(0, .slice p m.length c), (1, .func (.func 31) #[] #[q0])] _
  refine CW.seq ?_
  refine CW.region ?_
  refine RW.yl rfl rfl rfl (Yl.assign rfl rfl) ?_
  refine RW.nil ?_
  change CW _ _ _ _ _ _
  refine CW.seq ?_
  refine CW.seq ?_
  refine CW.region ?_
  refine RW.yl rfl rfl rfl (Yl.move rfl rfl) ?_
  refine RW.yl rfl rfl rfl (Yl.len rfl rfl Try.underlying31) ?_
  refine RW.yl rfl rfl rfl (Yl.move rfl rfl) ?_
  refine RW.nil ?_
  change CW _ _ _ _ _ _
  refine CW.block ?_
  refine CW.loop1 (fun (k : Nat) => [(0, .slice p m.length c), (1, .func (.func 31) #[] #[q0]), (7, .int .i64 ((m.length : Nat) : Int)), (8, .int .i64 ((k : Nat) : Int))]) (fun k gm W => (gm = m.length - k) ∧ (k ≤ m.length) ∧ (fidx g 0 m = fidx g k (m.drop k)) ∧ (Below w.heap.size w W) ∧ (w.heap.size ≤ W.heap.size)) 0 (m.length - 0) ⟨rfl, (by first | assumption | omega | rfl | exact Eq.trans (by assumption) (fidx_no _ _ _ (by omega) (by assumption))), (by first | assumption | omega | rfl | exact Eq.trans (by assumption) (fidx_no _ _ _ (by omega) (by assumption))), hB0, (by omega)⟩ (Sub.cons rfl (Sub.cons rfl (Sub.cons rfl (Sub.cons rfl (Sub.nil))))) ?_
  intro k gm1 w1 hinv
  obtain ⟨hm1, hi1, hi2, hB1, hz1⟩ := hinv
  change CW _ _ _ _ [(0, .slice p m.length c), (1, .func (.func 31) #[] #[q0]), (7, .int .i64 ((m.length : Nat) : Int)), (8, .int .i64 ((k : Nat) : Int))] _
  refine CW.seq ?_
  refine CW.region ?_
  refine RW.yl rfl rfl rfl (Yl.lss rfl rfl rfl) ?_
  refine RW.nil ?_
  change CW _ _ _ _ _ _
  refine CW.seq ?_
  refine CW.cond rfl ?_ ?_
  ·
    intro hg1
    have hq2 := of_decide_eq_true hg1
    first
    | (exfalso; omega)
    | (
      refine CW.skip ?_
      change CW _ _ _ _ _ _
      refine CW.seq ?_
      refine CW.block ?_
      refine CW.seq ?_
      refine CW.region ?_
      refine RW.yl rfl rfl rfl (Yl.move rfl rfl) ?_
      refine RW.yl rfl rfl rfl (Yl.assign rfl rfl) ?_
      refine RW.nil ?_
      change CW _ _ _ _ _ _
      refine CW.seq ?_
      refine CW.region ?_
      refine RW.yl rfl rfl rfl (Yl.move rfl rfl) ?_
      refine RW.yl rfl rfl rfl (Yl.move rfl rfl) ?_
      refine RW.yl rfl rfl rfl (Yl.move rfl rfl) ?_
      obtain ⟨bx1, ox1, hp1, hl1, hh1, hc1⟩ := (hv.mono (kept_from hB0 hB1 (Nat.le_refl _))).at k (by omega)
      refine RW.yl rfl rfl rfl (Yl.indexAddr1 (k := k) rfl rfl rfl Try.underlying31 sz3 hp1 rfl (by omega)) ?_
      refine RW.yl rfl rfl rfl (Yl.load rfl rfl one3 hc1) ?_
      refine RW.fn rfl rfl rfl (Yc.closure #[.int .i64 (m[k]!), q0] rfl rfl ok31 (capt (args1 rfl) rfl)) (HC hB1) ?_
      rintro _ w2 ⟨rfl, H1⟩
      have hB2 := Bl.step hB1 H1
      have hz2 := H1.size
      refine RW.nil ?_
      change CW _ _ _ _ _ _
      refine CW.cond rfl ?_ ?_
      ·
        intro hg2
        first
        | (exfalso; omega)
        | (
          refine CW.seq ?_
          refine CW.region ?_
          refine RW.yl rfl rfl rfl (Yl.move rfl rfl) ?_
          refine RW.yl rfl rfl rfl (Yl.assign rfl rfl) ?_
          refine RW.nil ?_
          change CW _ _ _ _ _ _
          refine CW.ret ?_
          change FinQ _ _ _ _ _ _
          refine fin1 (.inr rfl) rfl rfl ?_
          exact ⟨_, rfl, ival (by first | exact (Eq.trans (by assumption) (fidx_yes _ _ _ (by omega) (by assumption))).symm | exact (Eq.trans (by assumption) (fidx_end _ _ _ (by omega))).symm), hB2⟩)
      ·
        intro hg3
        first
        | (exfalso; omega)
        | (
          refine CW.skip ?_
          change CW _ _ _ _ _ _
          refine CW.region ?_
          refine RW.yl rfl rfl rfl (Yl.addN (a := k) (b := 1) rfl rfl rfl (by omega)) ?_
          refine RW.yl rfl rfl rfl (Yl.move rfl rfl) ?_
          refine RW.nil ?_
          refine ⟨k + 1, m.length - (k + 1), by omega, ⟨rfl, (by first | assumption | omega | rfl | exact Eq.trans (by assumption) (fidx_no _ _ _ (by omega) (by assumption))), (by first | assumption | omega | rfl | exact Eq.trans (by assumption) (fidx_no _ _ _ (by omega) (by assumption))), hB2, (by omega)⟩, Sub.cons rfl (Sub.cons rfl (Sub.cons rfl (Sub.cons rfl (Sub.nil))))⟩))
  ·
    intro hg4
    have hq6 := of_decide_eq_false hg4
    first
    | (exfalso; omega)
    | (
      refine CW.exit ?_
      change CW _ _ _ _ _ _
      refine CW.seq ?_
      refine CW.region ?_
      refine RW.yl rfl rfl rfl (Yl.assign rfl rfl) ?_
      refine RW.nil ?_
      change CW _ _ _ _ _ _
      refine CW.ret ?_
      change FinQ _ _ _ _ _ _
      refine fin1 (.inr rfl) rfl rfl ?_
      exact ⟨_, rfl, ival (by first | exact (Eq.trans (by assumption) (fidx_yes _ _ _ (by omega) (by assumption))).symm | exact (Eq.trans (by assumption) (fidx_end _ _ _ (by omega))).symm), hB1⟩)

theorem c30_31 {w : World} {v : Value} {m : List Int} (hv : RInts 0 w.heap.size w v m) {q0 : Value} {g : Int → Bool} (HC : ∀ {W : World} {n : Int}, Below w.heap.size w W → Calls Try.prog 31 #[.int .i64 n, q0] W (Ret fun r w' => r = .bool (g n) ∧ Below W.heap.size W w')) :
    Calls Try.prog 30 #[v, .func (.func 31) #[] #[q0]] w (Ret fun r w' => r = .bool (m.any g) ∧ Below w.heap.size w w') := by
  obtain ⟨p, c, rfl, hl⟩ := hv.form
  have hB0 : Below w.heap.size w w := Below.refl _ _
  refine Ev.calls (l := [.slice p m.length c, .func (.func 31) #[] #[q0]]) Try.func30 rfl rfl rfl ?_
  change CW _ _ _ _ [(0, .slice p m.length c), (1, .func (.func 31) #[] #[q0])] _
  refine CW.seq ?_
  refine CW.region ?_
  refine RW.yl rfl rfl rfl (Yl.assign rfl rfl) ?_
  refine RW.nil ?_
  change CW _ _ _ _ _ _
  refine CW.seq ?_
  refine CW.region ?_
  refine RW.yl rfl rfl rfl (Yl.move rfl rfl) ?_
  refine RW.yl rfl rfl rfl (Yl.move rfl rfl) ?_
  refine RW.fn rfl rfl rfl (Yc.func #[.slice p m.length c, .func (.func 31) #[] #[q0]] rfl ok54 (args2 rfl rfl)) (c54_31 (hv.wide (Nat.zero_le _) (by omega)) HC) ?_
  rintro _ w1 ⟨rfl, H1⟩
  have hB1 := Bl.step hB0 H1
  have hz1 := H1.size
  refine RW.yl rfl rfl rfl (Yl.geq rfl rfl rfl) ?_
  refine RW.yl rfl rfl rfl (Yl.assign rfl rfl) ?_
  refine RW.nil ?_
  change CW _ _ _ _ _ _
  refine CW.ret ?_
  change FinQ _ _ _ _ _ _
  refine fin1 (.inr rfl) rfl rfl ?_
  exact ⟨_, rfl, bval (fidx_any g m 0), hB1⟩

theorem c29 {w : World} {v u : Value} {c : List (List Int)} {t : List Int} (hv : RRows 0 w.heap.size w v c) (hu : RInts 0 w.heap.size w u t) :
    Calls Try.prog 29 #[.agg #[v], u] w (Ret fun r w' => ∃ s, r = .tuple #[.agg #[s], .int .i64 (mergeR c t).2] ∧ RRows w.heap.size w'.heap.size w' s (mergeR c t).1 ∧ Below w.heap.size w w') := by
  obtain ⟨p, cc, rfl, hl⟩ := hv.form
  obtain ⟨p2, ct, rfl, hl2⟩ := hu.form
  have hB0 : Below w.heap.size w w := Below.refl _ _
  refine Ev.calls (l := [.agg #[.slice p c.length cc], .slice p2 t.length ct]) Try.func29 rfl rfl rfl ?_
  change CW _ _ _ _ [(0, .agg #[.slice p c.length cc]), (1, .slice p2 t.length ct)] _
  refine CW.seq ?_
  refine CW.region ?_
  refine RW.newP (cs := #[.slice p c.length cc]) (T := 24) rfl rfl rfl (Yv.box (v := .agg #[.slice p c.length cc]) rfl rfl) ?_
  intro b1 w1 N1
  have lo_b1 : w.heap.size ≤ b1 := by have := hB0.size; have := N1.num; omega
  have hn_b1 := N1.num
  have hs_b1 := N1.size
  have hB1 := Bl.step hB0 N1.below
  refine RW.newP (cs := #[.slice none 0 0]) (T := 24) rfl rfl rfl (Yv.alloc (z := .agg #[.slice none 0 0]) rfl zero24) ?_
  intro b2 w2 N2
  have ne1 := New.ne N2 N1.blk
  have lo_b2 : w.heap.size ≤ b2 := by have := hB1.size; have := N2.num; omega
  have hn_b2 := N2.num
  have hs_b2 := N2.size
  have hB2 := Bl.step hB1 N2.below
  have hK1 := Blk.below N1.blk N2.below
  refine RW.yl rfl rfl rfl (Yl.assign rfl rfl) ?_
  refine RW.nil ?_
  change CW _ _ _ _ _ _
  refine CW.seq ?_
  refine CW.seq ?_
  refine CW.region ?_
  refine RW.yl rfl rfl rfl (Yl.loadAgg (cs := [.slice p c.length cc]) rfl rfl many24 (Blk.cells hK1)) ?_
  refine RW.fn rfl rfl rfl (Yc.func #[.agg #[.slice p c.length cc]] rfl ok48 (args1 rfl)) (c48 ((hv.mono (kept_from hB0 hB2 (Nat.le_refl _))).wide (Nat.zero_le _) (by omega))) ?_
  rintro _ w3 ⟨rfl, H1⟩
  have hB3 := Bl.step hB2 H1
  have hK2 := Blk.below hK1 H1
  have hK3 := Blk.below N2.blk H1
  have hz1 := H1.size
  refine RW.yl rfl rfl rfl (Yl.not rfl rfl) ?_
  refine RW.nil ?_
  change CW _ _ _ _ _ _
  refine CW.cond rfl ?_ ?_
  ·
    intro hg1
    have hg2 : validB c = false := not_t hg1
    first
    | (exfalso; omega)
    | (
      refine CW.seq ?_
      refine CW.region ?_
      refine RW.yl rfl rfl rfl (Yl.build0 rfl rfl built24) ?_
      refine RW.stoAll (cs' := #[.slice none 0 0]) rfl rfl hK3 (Yu.storeAll rfl rfl rfl sz24 hK3 rfl (by simp [Value.oneCell'])) ?_
      intro w4 H2
      have hB4 := Bl.sto hB3 H2 lo_b2
      have hK4 := Blk.sto hK2 H2 ne1
      have hK5 := H2.blk
      have hz2 := H2.size
      refine RW.yl rfl rfl rfl (Yl.assign rfl rfl) ?_
      refine RW.nil ?_
      change CW _ _ _ _ _ _
      refine CW.ret ?_
      change FinQ _ _ _ _ _ _
      refine finC1 (.inr rfl) rfl rfl (run_loadVar_many (cs := [.slice none 0 0]) many24 (Blk.cells hK5)) rfl ?_
      have hcr : mergeR c t = ([], 1) := by first | exact mergeR_bad (by assumption) | exact mergeR_len (by assumption) (by omega) | exact mergeR_out (by assumption) (by omega) (by assumption)
      exact ⟨_, rfl, _, by first | (rw [hcr]; done) | (rw [hcr]; rfl), by rw [hcr]; exact Sl.nil _ _ _ _, hB4⟩)
  ·
    intro hg3
    have hg4 : validB c = true := not_f hg3
    have hv_c : validB c = true := hg4
    have ht_c := totG_bounds hv_c
    have hcc_c := validB_chan hv_c
    have hr1_c := hcc_c.r1
    have hr2_c := hcc_c.r2
    have hc1_c := hcc_c.c1
    have hc2_c := hcc_c.c2
    first
    | (exfalso; omega)
    | (
      refine CW.skip ?_
      change CW _ _ _ _ _ _
      refine CW.seq ?_
      refine CW.region ?_
      refine RW.yl rfl rfl rfl (Yl.loadAgg (cs := [.slice p c.length cc]) rfl rfl many24 (Blk.cells hK2)) ?_
      refine RW.fn rfl rfl rfl (Yc.func #[.agg #[.slice p c.length cc]] rfl ok40 (args1 rfl)) (c40 ((hv.mono (kept_from hB0 hB3 (Nat.le_refl _))).wide (Nat.zero_le _) (by omega)) (by omega)) ?_
      rintro _ w5 ⟨rfl, H3⟩
      have hB5 := Bl.step hB3 H3
      have hK6 := Blk.below hK2 H3
      have hK7 := Blk.below hK3 H3
      have hz3 := H3.size
      refine RW.newP (cs := #[.int .i64 0]) (T := 3) rfl rfl rfl (Yv.alloc (z := .int .i64 0) rfl zero3) ?_
      intro b3 w6 N3
      have ne2 := New.ne N3 hK6
      have ne3 := New.ne N3 hK7
      have lo_b3 : w.heap.size ≤ b3 := by have := hB5.size; have := N3.num; omega
      have hn_b3 := N3.num
      have hs_b3 := N3.size
      have hB6 := Bl.step hB5 N3.below
      have hK8 := Blk.below hK6 N3.below
      have hK9 := Blk.below hK7 N3.below
      refine RW.sto (v := .int .i64 (((c[0]!).length : Nat) : Int)) (i := 0) rfl rfl N3.blk (Yu.store rfl rfl rfl rfl rfl sz3 N3.blk (by simp)) ?_
      intro w7 H4
      have hB7 := Bl.sto hB6 H4 lo_b3
      have hK10 := Blk.sto hK8 H4 ne2
      have hK11 := Blk.sto hK9 H4 ne3
      have hK12 := H4.blk
      have hz4 := H4.size
      refine RW.nil ?_
      change CW _ _ _ _ _ _
      refine CW.seq ?_
      refine CW.seq ?_
      refine CW.region ?_
      refine RW.yl rfl rfl rfl (Yl.move rfl rfl) ?_
      refine RW.yl rfl rfl rfl (Yl.len rfl rfl Try.underlying31) ?_
      refine RW.yl rfl rfl rfl (Yl.load rfl rfl one3 (Blk.cell hK12 rfl)) ?_
      refine RW.yl rfl rfl rfl (Yl.neq rfl rfl rfl) ?_
      refine RW.nil ?_
      change CW _ _ _ _ _ _
      refine CW.cond rfl ?_ ?_
      ·
        intro hg5
        have hg6 : decide (((t.length : Nat) : Int) = (((c[0]!).length : Nat) : Int)) = false := not_t hg5
        have hq4 := of_decide_eq_false hg6
        first
        | (exfalso; omega)
        | (
          refine CW.seq ?_
          refine CW.region ?_
          refine RW.yl rfl rfl rfl (Yl.build0 rfl rfl built24) ?_
          refine RW.stoAll (cs' := #[.slice none 0 0]) rfl rfl hK11 (Yu.storeAll rfl rfl rfl sz24 hK11 rfl (by simp [Value.oneCell'])) ?_
          intro w8 H5
          have hB8 := Bl.sto hB7 H5 lo_b2
          have hK13 := Blk.sto hK10 H5 ne1
          have hK14 := H5.blk
          have hK15 := Blk.sto hK12 H5 ne3.symm
          have hz5 := H5.size
          refine RW.yl rfl rfl rfl (Yl.assign rfl rfl) ?_
          refine RW.nil ?_
          change CW _ _ _ _ _ _
          refine CW.ret ?_
          change FinQ _ _ _ _ _ _
          refine finC1 (.inr rfl) rfl rfl (run_loadVar_many (cs := [.slice none 0 0]) many24 (Blk.cells hK14)) rfl ?_
          have hcr : mergeR c t = ([], 2) := by first | exact mergeR_bad (by assumption) | exact mergeR_len (by assumption) (by omega) | exact mergeR_out (by assumption) (by omega) (by assumption)
          exact ⟨_, rfl, _, by first | (rw [hcr]; done) | (rw [hcr]; rfl), by rw [hcr]; exact Sl.nil _ _ _ _, hB8⟩)
      ·
        intro hg7
        have hg8 : decide (((t.length : Nat) : Int) = (((c[0]!).length : Nat) : Int)) = true := not_f hg7
        have hq6 := of_decide_eq_true hg8
        first
        | (exfalso; omega)
        | (
          refine CW.skip ?_
          change CW _ _ _ _ _ _
          refine CW.seq ?_
          refine CW.seq ?_
          refine CW.region ?_
          refine RW.yl rfl rfl rfl (Yl.move rfl rfl) ?_
          refine RW.yl rfl rfl rfl (Yl.func #[.pointer (some ⟨b3, 0, none⟩)] rfl rfl (args1 rfl)) ?_
          refine RW.fn rfl rfl rfl (Yc.func #[.slice p2 t.length ct, .func (.func 52) #[] #[.pointer (some ⟨b3, 0, none⟩)]] rfl ok30 (args2 rfl rfl)) (c30_52 ((hu.mono (kept_from hB0 hB7 (Nat.le_refl _))).wide (Nat.zero_le _) (by omega)) (g := fun n => decide (n < 0 ∨ (((c[0]!).length : Nat) : Int) ≤ n)) (fun hb => c52 (Blk.below hK12 hb))) ?_
          rintro _ w9 ⟨rfl, H6⟩
          have hB9 := Bl.step hB7 H6
          have hK16 := Blk.below hK10 H6
          have hK17 := Blk.below hK11 H6
          have hK18 := Blk.below hK12 H6
          have hz6 := H6.size
          refine RW.nil ?_
          change CW _ _ _ _ _ _
          refine CW.cond rfl ?_ ?_
          ·
            intro hg9
            first
            | (exfalso; omega)
            | (
              refine CW.seq ?_
              refine CW.region ?_
              refine RW.yl rfl rfl rfl (Yl.build0 rfl rfl built24) ?_
              refine RW.stoAll (cs' := #[.slice none 0 0]) rfl rfl hK17 (Yu.storeAll rfl rfl rfl sz24 hK17 rfl (by simp [Value.oneCell'])) ?_
              intro w10 H7
              have hB10 := Bl.sto hB9 H7 lo_b2
              have hK19 := Blk.sto hK16 H7 ne1
              have hK20 := H7.blk
              have hK21 := Blk.sto hK18 H7 ne3.symm
              have hz7 := H7.size
              refine RW.yl rfl rfl rfl (Yl.assign rfl rfl) ?_
              refine RW.nil ?_
              change CW _ _ _ _ _ _
              refine CW.ret ?_
              change FinQ _ _ _ _ _ _
              refine finC1 (.inr rfl) rfl rfl (run_loadVar_many (cs := [.slice none 0 0]) many24 (Blk.cells hK20)) rfl ?_
              have hcr : mergeR c t = ([], 3) := by first | exact mergeR_bad (by assumption) | exact mergeR_len (by assumption) (by omega) | exact mergeR_out (by assumption) (by omega) (by assumption)
              exact ⟨_, rfl, _, by first | (rw [hcr]; done) | (rw [hcr]; rfl), by rw [hcr]; exact Sl.nil _ _ _ _, hB10⟩)
          ·
            intro hg10
            have hout : outB (((c[0]!).length : Nat) : Int) t = false := hg10
            first
            | (exfalso; omega)
            | (
              refine CW.skip ?_
              change CW _ _ _ _ _ _
              refine CW.seq ?_
              refine CW.region ?_
              refine RW.yl rfl rfl rfl (Yl.fieldAddr rfl rfl Try.underlying24 rfl sz22) ?_
              refine RW.yl rfl rfl rfl (Yl.load rfl rfl one22 (Blk.cell hK16 rfl)) ?_
              refine RW.yl rfl rfl rfl (Yl.len rfl rfl Try.underlying22) ?_
              refine RW.yl rfl rfl rfl (Yl.load rfl rfl one3 (Blk.cell hK18 rfl)) ?_
              refine RW.fn rfl rfl rfl (Yc.func #[.int .i64 ((c.length : Nat) : Int), .int .i64 (((c[0]!).length : Nat) : Int), .func (.func 53) #[] #[]] rfl ok43 (args3 rfl rfl rfl)) (c43m_53 (f := fun _ _ => 0) (fun _ _ hb => c53) (by omega) (by omega) (by omega)) ?_
              rintro _ w11 ⟨go, capo, curo, G, rfl, hgo, hgl, hst, hmat, H8⟩
              have hglo : w.heap.size ≤ go := by have := hB9.size; omega
              have hB11 := Bl.step hB9 H8
              have hK22 := Blk.below hK16 H8
              have hK23 := Blk.below hK17 H8
              have hK24 := Blk.below hK18 H8
              have hz8 := H8.size
              refine RW.newP (cs := #[.slice none 0 0]) (T := 24) rfl rfl rfl (Yv.alloc (z := .agg #[.slice none 0 0]) rfl zero24) ?_
              intro b4 w12 N4
              have ne4 := New.ne N4 hK22
              have ne5 := New.ne N4 hK23
              have ne6 := New.ne N4 hK24
              have ne7 := New.ne N4 hgo
              have lo_b4 : w.heap.size ≤ b4 := by have := hB11.size; have := N4.num; omega
              have hn_b4 := N4.num
              have hs_b4 := N4.size
              have hB12 := Bl.step hB11 N4.below
              have hK25 := Blk.below hK22 N4.below
              have hK26 := Blk.below hK23 N4.below
              have hK27 := Blk.below hK24 N4.below
              have hK28 := Blk.below hgo N4.below
              have hC1 := hmat.below N4.below
              refine RW.stoAll (cs' := #[.slice (some ⟨go, 0, none⟩) c.length capo]) rfl rfl N4.blk (Yu.storeAll rfl rfl rfl sz24 N4.blk rfl (by simp [Value.oneCell'])) ?_
              intro w13 H9
              have hB13 := Bl.sto hB12 H9 lo_b4
              have hK29 := Blk.sto hK25 H9 ne4
              have hK30 := Blk.sto hK26 H9 ne5
              have hK31 := Blk.sto hK27 H9 ne6
              have hK32 := Blk.sto hK28 H9 ne7
              have hK33 := H9.blk
              have hC2 := hC1.stoT H9 N4.blk (by decide)
              have hz9 := H9.size
              refine RW.nil ?_
              change CW _ _ _ _ _ _
              refine CW.seq ?_
              refine CW.seq ?_
              refine CW.region ?_
              refine RW.yl rfl rfl rfl (Yl.fieldAddr rfl rfl Try.underlying24 rfl sz22) ?_
              refine RW.yl rfl rfl rfl (Yl.load rfl rfl one22 (Blk.cell hK29 rfl)) ?_
              refine RW.yl rfl rfl rfl (Yl.len rfl rfl Try.underlying22) ?_
              refine RW.yl rfl rfl rfl (Yl.move rfl rfl) ?_
              refine RW.nil ?_
              change CW _ _ _ _ _ _
              refine CW.block ?_
              have hC3 : OMat 3 w13 c.length (c[0]!).length G (fun i z => if i < 0 then mrow c t i (c[0]!).length z else 0) c.length := hC2.congr fun i z _ _ _ => (if_neg (Nat.not_lt_zero i)).symm
              refine CW.loop1 (fun (k : Nat) => [(1, .slice p2 t.length ct), (4, .pointer (some ⟨b2, 0, none⟩)), (5, .int .i64 0), (7, .pointer (some ⟨b4, 0, none⟩)), (33, .slice p c.length cc), (34, .int .i64 ((c.length : Nat) : Int)), (35, .int .i64 ((k : Nat) : Int))]) (fun k gm W => (gm = c.length - k) ∧ (k ≤ c.length) ∧ (Below w.heap.size w W) ∧ (Blk W b1 #[.slice p c.length cc] 24) ∧ (Blk W b2 #[.slice none 0 0] 24) ∧ (Blk W b3 #[.int .i64 (((c[0]!).length : Nat) : Int)] 3) ∧ (Blk W go curo 31) ∧ (Blk W b4 #[.slice (some ⟨go, 0, none⟩) c.length capo] 24) ∧ (OMat 3 W c.length (c[0]!).length G (fun i z => if i < k then mrow c t i (c[0]!).length z else 0) c.length) ∧ (w13.heap.size ≤ W.heap.size)) 0 (c.length - 0) ⟨rfl, (by first | assumption | omega | rfl | omega), hB13, hK29, hK30, hK31, hK32, hK33, hC3, (by omega)⟩ (Sub.cons rfl (Sub.cons rfl (Sub.cons rfl (Sub.cons rfl (Sub.cons rfl (Sub.cons rfl (Sub.cons rfl (Sub.nil)))))))) ?_
              intro k gm1 w14 hinv
              obtain ⟨hm1, hi1, hB14, hK34, hK35, hK36, hK37, hK38, hC4, hz10⟩ := hinv
              change CW _ _ _ _ [(1, .slice p2 t.length ct), (4, .pointer (some ⟨b2, 0, none⟩)), (5, .int .i64 0), (7, .pointer (some ⟨b4, 0, none⟩)), (33, .slice p c.length cc), (34, .int .i64 ((c.length : Nat) : Int)), (35, .int .i64 ((k : Nat) : Int))] _
              refine CW.seq ?_
              refine CW.region ?_
              refine RW.yl rfl rfl rfl (Yl.lss rfl rfl rfl) ?_
              refine RW.nil ?_
              change CW _ _ _ _ _ _
              refine CW.seq ?_
              refine CW.cond rfl ?_ ?_
              ·
                intro hg11
                have hq10 := of_decide_eq_true hg11
                first
                | (exfalso; omega)
                | (
                  refine CW.skip ?_
                  change CW _ _ _ _ _ _
                  refine CW.seq ?_
                  refine CW.block ?_
                  refine CW.seq ?_
                  refine CW.region ?_
                  refine RW.yl rfl rfl rfl (Yl.move rfl rfl) ?_
                  obtain ⟨bx1, ox1, px1, cx1, hp1, hl1, hh1, hc1, hx1, hn1⟩ := (hv.mono (kept_from hB0 hB14 (Nat.le_refl _))).at k (by first | omega | (have := htj (by omega); omega))
                  refine RW.yl rfl rfl rfl (Yl.indexAddr1 (k := k) rfl rfl rfl Try.underlying22 sz31 hp1 rfl (by first | omega | (have := htj (by omega); omega))) ?_
                  refine RW.yl rfl rfl rfl (Yl.load rfl rfl one31 hc1) ?_
                  refine RW.yl rfl rfl rfl (Yl.assign rfl rfl) ?_
                  refine RW.yl rfl rfl rfl (Yl.assign rfl rfl) ?_
                  refine RW.nil ?_
                  change CW _ _ _ _ _ _
                  refine CW.seq ?_
                  refine CW.region ?_
                  refine RW.yl rfl rfl rfl (Yl.move rfl rfl) ?_
                  refine RW.yl rfl rfl rfl (Yl.len rfl rfl Try.underlying31) ?_
                  refine RW.yl rfl rfl rfl (Yl.move rfl rfl) ?_
                  refine RW.nil ?_
                  change CW _ _ _ _ _ _
                  refine CW.block ?_
                  obtain ⟨hgl0, hgh0, hgx0⟩ := hst.1 k (by omega)
                  obtain ⟨cur0, hg0, hgs0, hgc0⟩ := hC4 k (by omega) (by omega)
                  have hC5 : OMat 3 w14 c.length (c[0]!).length G (fun i z => if i < k then mrow c t i (c[0]!).length z else 0) k := OMat.hole hC4
                  obtain ⟨gk, hgk⟩ : ∃ b, G k = b := ⟨_, rfl⟩
                  rw [hgk] at hg0 hgx0 hgl0 hgh0
                  have hgklo : w.heap.size ≤ gk := by omega
                  have hne_go : go ≠ gk := Blk.neT hK37 hg0 (by decide)
                  have hrow : (c[k]!).length = (c[0]!).length := hcc_c.width k (by omega)
                  have hE : ∀ j, j < (c[0]!).length → 0 ≤ (c[k]!)[j]! ∧ (c[k]!)[j]! ≤ 1048576 := fun j hj => hcc_c.entry k j (by omega) hj
                  have hT := outB_no hout
                  refine CW.loop2 (fun (j : Nat) (cur : Array Value) => [(1, .slice p2 t.length ct), (4, .pointer (some ⟨b2, 0, none⟩)), (5, .int .i64 0), (7, .pointer (some ⟨b4, 0, none⟩)), (8, .int .i64 ((k : Nat) : Int)), (9, .slice px1 ((c[k]!).length) cx1), (33, .slice p c.length cc), (34, .int .i64 ((c.length : Nat) : Int)), (35, .int .i64 ((k : Nat) : Int)), (36, .bool (decide (((k : Nat) : Int) < ((c.length : Nat) : Int)))), (37, .int .i64 ((k : Nat) : Int)), (38, .pointer (some ⟨bx1, ox1 + k, none⟩)), (39, .slice px1 ((c[k]!).length) cx1), (40, .slice px1 ((c[k]!).length) cx1), (41, .int .i64 (((c[k]!).length : Nat) : Int)), (42, .int .i64 ((j : Nat) : Int))]) (fun j cur gm W => (gm = (c[0]!).length - j) ∧ (j ≤ (c[0]!).length) ∧ (cur.size = (c[0]!).length) ∧ (∀ z, z < (c[0]!).length → cur[z]? = some (.int .i64 (mrow c t k j z))) ∧ (Below w.heap.size w W) ∧ (Blk W b1 #[.slice p c.length cc] 24) ∧ (Blk W b2 #[.slice none 0 0] 24) ∧ (Blk W b3 #[.int .i64 (((c[0]!).length : Nat) : Int)] 3) ∧ (Blk W go curo 31) ∧ (Blk W b4 #[.slice (some ⟨go, 0, none⟩) c.length capo] 24) ∧ (Blk W gk cur 3) ∧ (OMat 3 W c.length (c[0]!).length G (fun i z => if i < k then mrow c t i (c[0]!).length z else 0) k) ∧ (w14.heap.size ≤ W.heap.size)) 0 cur0 ((c[0]!).length - 0) ⟨rfl, (by first | assumption | omega | rfl | (first | exact size_set (by assumption) | exact mrow_start (f := fun z => if k < k then mrow c t k (c[0]!).length z else 0) hgc0 (fun z _ => if_neg (Nat.lt_irrefl k)) | exact mrow_next hcur (by assumption) (htj (by omega)))), (by first | assumption | omega | rfl | (first | exact size_set (by assumption) | exact mrow_start (f := fun z => if k < k then mrow c t k (c[0]!).length z else 0) hgc0 (fun z _ => if_neg (Nat.lt_irrefl k)) | exact mrow_next hcur (by assumption) (htj (by omega)))), (by first | assumption | omega | rfl | (first | exact size_set (by assumption) | exact mrow_start (f := fun z => if k < k then mrow c t k (c[0]!).length z else 0) hgc0 (fun z _ => if_neg (Nat.lt_irrefl k)) | exact mrow_next hcur (by assumption) (htj (by omega)))), hB14, hK34, hK35, hK36, hK37, hK38, hg0, hC5, (by omega)⟩ (Sub.cons rfl (Sub.cons rfl (Sub.cons rfl (Sub.cons rfl (Sub.cons rfl (Sub.cons rfl (Sub.cons rfl (Sub.cons rfl (Sub.cons rfl (Sub.cons rfl (Sub.cons rfl (Sub.cons rfl (Sub.cons rfl (Sub.cons rfl (Sub.cons rfl (Sub.cons rfl (Sub.nil))))))))))))))))) ?_
                  intro j cur gm2 w15 hinv
                  obtain ⟨hm2, hi2, hi3, hi4, hB15, hK39, hK40, hK41, hK42, hK43, hK44, hC6, hz11⟩ := hinv
                  change CW _ _ _ _ [(1, .slice p2 t.length ct), (4, .pointer (some ⟨b2, 0, none⟩)), (5, .int .i64 0), (7, .pointer (some ⟨b4, 0, none⟩)), (8, .int .i64 ((k : Nat) : Int)), (9, .slice px1 ((c[k]!).length) cx1), (33, .slice p c.length cc), (34, .int .i64 ((c.length : Nat) : Int)), (35, .int .i64 ((k : Nat) : Int)), (36, .bool (decide (((k : Nat) : Int) < ((c.length : Nat) : Int)))), (37, .int .i64 ((k : Nat) : Int)), (38, .pointer (some ⟨bx1, ox1 + k, none⟩)), (39, .slice px1 ((c[k]!).length) cx1), (40, .slice px1 ((c[k]!).length) cx1), (41, .int .i64 (((c[k]!).length : Nat) : Int)), (42, .int .i64 ((j : Nat) : Int))] _
                  have hcur := hi4
                  have htj : j < (c[0]!).length → 0 ≤ t[j]! ∧ t[j]! < (((c[0]!).length : Nat) : Int) := fun h => hT j (by omega)
                  have hmb := fun z => mrow_bounds hcc_c (t := t) (x := k) (j := j) (by omega) (by omega) z
                  refine CW.seq ?_
                  refine CW.region ?_
                  refine RW.yl rfl rfl rfl (Yl.lss rfl rfl rfl) ?_
                  refine RW.nil ?_
                  change CW _ _ _ _ _ _
                  refine CW.seq ?_
                  refine CW.cond rfl ?_ ?_
                  ·
                    intro hg12
                    have hq12 := of_decide_eq_true hg12
                    first
                    | (exfalso; omega)
                    | (
                      refine CW.skip ?_
                      change CW _ _ _ _ _ _
                      refine CW.seq ?_
                      refine CW.block ?_
                      refine CW.seq ?_
                      refine CW.region ?_
                      refine RW.yl rfl rfl rfl (Yl.move rfl rfl) ?_
                      obtain ⟨bx2, ox2, hp2, hl2, hh2, hc2⟩ := (hx1.mono (kept_from hB14 hB15 (Nat.le_refl _))).at j (by first | omega | (have := htj (by omega); omega))
                      refine RW.yl rfl rfl rfl (Yl.indexAddr1 (k := j) rfl rfl rfl Try.underlying31 sz3 hp2 rfl (by first | omega | (have := htj (by omega); omega))) ?_
                      refine RW.yl rfl rfl rfl (Yl.load rfl rfl one3 hc2) ?_
                      refine RW.yl rfl rfl rfl (Yl.assign rfl rfl) ?_
                      refine RW.yl rfl rfl rfl (Yl.assign rfl rfl) ?_
                      refine RW.nil ?_
                      change CW _ _ _ _ _ _
                      refine CW.draw 15 rfl (Kp [gk]) (by kernel_rfl) ?_
                      intro w16 H10
                      have hB16 := Bl.step hB15 H10
                      have hK45 := Blk.below hK39 H10
                      have hK46 := Blk.below hK40 H10
                      have hK47 := Blk.below hK41 H10
                      have hK48 := Blk.below hK42 H10
                      have hK49 := Blk.below hK43 H10
                      have hK50 := Blk.below hK44 H10
                      have hC7 := hC6.below H10
                      have hz12 := H10.size
                      have hS1 := Kp.refl [gk] w16
                      refine RH.take 0 rfl (by kernel_rfl) rfl rfl rfl hS1 (fun W1 hW1 => Yl.fieldAddr rfl rfl Try.underlying24 rfl sz22) ?_
                      refine RH.take 1 rfl (by kernel_rfl) rfl rfl rfl hS1 (fun W2 hW2 => Yl.load rfl rfl one22 (Blk.cell (Kp.blk hW2 hK49 (by simp only [List.mem_cons, List.not_mem_nil, or_false]; omega)) rfl)) ?_
                      refine RH.take 2 rfl (by kernel_rfl) rfl rfl rfl hS1 (fun W3 hW3 => Yl.move rfl rfl) ?_
                      refine RH.take 3 rfl (by kernel_rfl) rfl rfl rfl hS1 (fun W4 hW4 => Yl.indexAddr1 (k := k) rfl rfl rfl Try.underlying22 sz31 rfl rfl (by first | omega | (have := htj (by omega); omega))) ?_
                      refine RH.take 4 rfl (by kernel_rfl) rfl rfl rfl hS1 (fun W5 hW5 => Yl.load rfl rfl one31 (Blk.cell (Kp.blk hW5 hK48 (by simp only [List.mem_cons, List.not_mem_nil, or_false]; omega)) (by rw [Nat.zero_add]; exact hgx0))) ?_
                      refine RH.take 5 rfl (by kernel_rfl) rfl rfl rfl hS1 (fun W6 hW6 => Yl.move rfl rfl) ?_
                      refine RH.take 6 rfl (by kernel_rfl) rfl rfl rfl hS1 (fun W7 hW7 => Yl.move rfl rfl) ?_
                      obtain ⟨bx3, ox3, hp3, hl3, hh3, hc3⟩ := (hu.mono (kept_from hB0 hB16 (Nat.le_refl _))).at j (by first | omega | (have := htj (by omega); omega))
                      refine RH.take 7 rfl (by kernel_rfl) rfl rfl rfl hS1 (fun W8 hW8 => Yl.indexAddr1 (k := j) rfl rfl rfl Try.underlying31 sz3 hp3 rfl (by first | omega | (have := htj (by omega); omega))) ?_
                      refine RH.take 8 rfl (by kernel_rfl) rfl rfl rfl hS1 (fun W9 hW9 => Yl.load rfl rfl one3 (Kp.cell hW9 hc3 (by simp only [List.mem_cons, List.not_mem_nil, or_false]; omega))) ?_
                      refine RH.take 9 rfl (by kernel_rfl) rfl rfl rfl hS1 (fun W10 hW10 => Yl.indexAddr1 (k := ((t[j]!)).toNat) rfl rfl rfl Try.underlying31 sz3 rfl (Int.toNat_of_nonneg (by have := htj (by omega); omega)).symm (by first | omega | (have := htj (by omega); omega))) ?_
                      refine RH.take 11 rfl (by kernel_rfl) rfl rfl rfl hS1 (fun W12 hW12 => Yl.move rfl rfl) ?_
                      refine RH.one 10 (by kernel_rfl) ?_
                      refine RO.yl rfl rfl rfl rfl (Yl.load rfl rfl one3 (Blk.cell hK50 (by rw [Nat.zero_add]; exact hcur _ (by have := htj (by omega); omega)))) hS1 ?_
                      refine RH.take 12 rfl (by kernel_rfl) rfl rfl rfl hS1 (fun W14 hW14 => Yl.add (m := mrow c t k j (t[j]!).toNat) (n := ((c[k]!)[j]!)) rfl rfl rfl (by first | omega | (have h1 := hmb (t[j]!).toNat; have h2 := hE j (by omega); omega))) ?_
                      refine RH.take 13 rfl (by kernel_rfl) rfl rfl rfl hS1 (fun W15 hW15 => Yl.indexAddr1 (k := ((t[j]!)).toNat) rfl rfl rfl Try.underlying31 sz3 rfl (Int.toNat_of_nonneg (by have := htj (by omega); omega)).symm (by first | omega | (have := htj (by omega); omega))) ?_
                      refine RH.one 14 (by kernel_rfl) ?_
                      refine RO.sto rfl (v := .int .i64 ((mrow c t k j (t[j]!).toNat) + ((c[k]!)[j]!))) (j := 0 + (((t[j]!)).toNat)) rfl rfl hK50 (Yu.store rfl rfl rfl rfl rfl sz3 hK50 (by have := htj (by omega); omega)) ?_
                      intro w17 H11
                      have hS2 := Kp.sto hS1 H11 (.inl (List.mem_cons_self ..))
                      have hB17 := Bl.sto hB16 H11 hgklo
                      have hK51 := Blk.sto hK45 H11 (by omega)
                      have hK52 := Blk.sto hK46 H11 (by omega)
                      have hK53 := Blk.sto hK47 H11 (by omega)
                      have hK54 := Blk.sto hK48 H11 hne_go
                      have hK55 := Blk.sto hK49 H11 (by omega)
                      have hK56 := H11.blk
                      have hC8 := hC7.stoX H11 hst (by omega) hgk
                      have hz13 := H11.size
                      refine ⟨hS2, ?_⟩
                      refine RH.done (by kernel_rfl) ?_
                      change CW _ _ _ _ _ _
                      refine CW.region ?_
                      refine RW.yl rfl rfl rfl (Yl.addN (a := j) (b := 1) rfl rfl rfl (by first | omega | (have h1 := hmb (t[j]!).toNat; have h2 := hE j (by omega); omega))) ?_
                      refine RW.yl rfl rfl rfl (Yl.move rfl rfl) ?_
                      refine RW.nil ?_
                      refine ⟨(j + 1, (cur).setIfInBounds (0 + (((t[j]!)).toNat)) (.int .i64 ((mrow c t k j (t[j]!).toNat) + ((c[k]!)[j]!)))), (c[0]!).length - (j + 1), by omega, ⟨rfl, (by first | assumption | omega | rfl | (first | exact size_set (by assumption) | exact mrow_start (f := fun z => if k < k then mrow c t k (c[0]!).length z else 0) hgc0 (fun z _ => if_neg (Nat.lt_irrefl k)) | exact mrow_next hcur (by assumption) (htj (by omega)))), (by first | assumption | omega | rfl | (first | exact size_set (by assumption) | exact mrow_start (f := fun z => if k < k then mrow c t k (c[0]!).length z else 0) hgc0 (fun z _ => if_neg (Nat.lt_irrefl k)) | exact mrow_next hcur (by assumption) (htj (by omega)))), (by first | assumption | omega | rfl | (first | exact size_set (by assumption) | exact mrow_start (f := fun z => if k < k then mrow c t k (c[0]!).length z else 0) hgc0 (fun z _ => if_neg (Nat.lt_irrefl k)) | exact mrow_next hcur (by assumption) (htj (by omega)))), hB17, hK51, hK52, hK53, hK54, hK55, hK56, hC8, (by omega)⟩, Sub.cons rfl (Sub.cons rfl (Sub.cons rfl (Sub.cons rfl (Sub.cons rfl (Sub.cons rfl (Sub.cons rfl (Sub.cons rfl (Sub.cons rfl (Sub.cons rfl (Sub.cons rfl (Sub.cons rfl (Sub.cons rfl (Sub.cons rfl (Sub.cons rfl (Sub.cons rfl (Sub.nil))))))))))))))))⟩)
                  ·
                    intro hg13
                    have hq14 := of_decide_eq_false hg13
                    first
                    | (exfalso; omega)
                    | (
                      refine CW.exit ?_
                      change CW _ _ _ _ _ _
                      refine CW.region ?_
                      refine RW.yl rfl rfl rfl (Yl.addN (a := k) (b := 1) rfl rfl rfl (by first | omega | (have h1 := hmb (t[j]!).toNat; have h2 := hE j (by omega); omega))) ?_
                      refine RW.yl rfl rfl rfl (Yl.move rfl rfl) ?_
                      refine RW.nil ?_
                      obtain rfl : j = (c[0]!).length := by omega
                      have hC9 : OMat 3 w15 c.length (c[0]!).length G (fun i z => if i < k + 1 then mrow c t i (c[0]!).length z else 0) c.length := OMat.join hC6 hgk hK44 (by assumption) (fun z hz => by rw [if_pos (by omega)]; exact hcur z hz) (fun i z _ hne _ => mif hne)
                      refine ⟨k + 1, c.length - (k + 1), by omega, ⟨rfl, (by first | assumption | omega | rfl | omega), hB15, hK39, hK40, hK41, hK42, hK43, hC9, (by omega)⟩, Sub.cons rfl (Sub.cons rfl (Sub.cons rfl (Sub.cons rfl (Sub.cons rfl (Sub.cons rfl (Sub.cons rfl (Sub.nil)))))))⟩))
              ·
                intro hg14
                have hq16 := of_decide_eq_false hg14
                first
                | (exfalso; omega)
                | (
                  refine CW.exit ?_
                  change CW _ _ _ _ _ _
                  refine CW.seq ?_
                  refine CW.region ?_
                  refine RW.yl rfl rfl rfl (Yl.loadAgg (cs := [.slice (some ⟨go, 0, none⟩) c.length capo]) rfl rfl many24 (Blk.cells hK38)) ?_
                  refine RW.stoAll (cs' := #[.slice (some ⟨go, 0, none⟩) c.length capo]) rfl rfl hK35 (Yu.storeAll rfl rfl rfl sz24 hK35 rfl (by simp [Value.oneCell'])) ?_
                  intro w18 H12
                  have hB18 := Bl.sto hB14 H12 lo_b2
                  have hK57 := Blk.sto hK34 H12 ne1
                  have hK58 := H12.blk
                  have hK59 := Blk.sto hK36 H12 ne3.symm
                  have hK60 := Blk.sto hK37 H12 (by omega)
                  have hK61 := Blk.sto hK38 H12 ne5.symm
                  have hC10 := hC4.stoT H12 hK35 (by decide)
                  have hz14 := H12.size
                  refine RW.yl rfl rfl rfl (Yl.assign rfl rfl) ?_
                  refine RW.nil ?_
                  change CW _ _ _ _ _ _
                  refine CW.ret ?_
                  change FinQ _ _ _ _ _ _
                  refine finC1 (.inr rfl) rfl rfl (run_loadVar_many (cs := [.slice (some ⟨go, 0, none⟩) c.length capo]) many24 (Blk.cells hK58)) rfl ?_
                  obtain rfl : k = c.length := by omega
                  have hcr : mergeR c t = (mergeT c t, 0) := mergeR_ok hv_c (by omega) hout
                  have hfin := OMat.rows (capo := capo) (L := w.heap.size) hK60 hst hC10 (by omega) hglo (by omega) (by omega)
                  have htab : tab c.length (c[0]!).length (fun i z => if i < c.length then mrow c t i (c[0]!).length z else 0) = mergeT c t := tab_congr fun x z hx _ => if_pos hx
                  rw [htab] at hfin
                  exact ⟨_, rfl, _, by first | (rw [hcr]; done) | (rw [hcr]; rfl), by rw [hcr]; exact hfin, hB18⟩))))

end Go.Proofs.Ytodeffidnipelaa
