/- Small functions. -/
import Derived.Test.YtodeffidnipelaaT2
namespace Go.Proofs.Ytodeffidnipelaa
open Go.RowKit Go.Ev

theorem validB_len {m : List (List Int)} (h : validB m = true) : 0 < m.length := by
  unfold validB at h
  split at h
  · cases h
  · omega

theorem c40 {w : World} {v : Value} {m : List (List Int)} (hv : RRows 0 w.heap.size w v m) (hm : 0 < m.length) :
    Calls Try.prog 40 #[.agg #[v]] w (Ret fun r w' => r = .int .i64 ((m[0]!).length : Nat) ∧ Below w.heap.size w w') := by
  obtain ⟨p, c, rfl, hl⟩ := hv.form
  have hB0 : Below w.heap.size w w := Below.refl _ _
  refine Ev.calls (l := [.agg #[.slice p m.length c]]) Try.func40 rfl rfl rfl ?_
  change CW _ _ _ _ [(0, .agg #[.slice p m.length c])] _
  refine CW.seq ?_
  refine CW.region ?_
  refine RW.newP (cs := #[.slice p m.length c]) (T := 24) rfl rfl rfl (Yv.box (v := .agg #[.slice p m.length c]) rfl rfl) ?_
  intro b1 w1 N1
  have lo_b1 : w.heap.size ≤ b1 := by have := hB0.size; have := N1.num; omega
  have hn_b1 := N1.num
  have hs_b1 := N1.size
  have hB1 := Bl.step hB0 N1.below
  refine RW.yl rfl rfl rfl (Yl.assign rfl rfl) ?_
  refine RW.nil ?_
  change CW _ _ _ _ _ _
  refine CW.seq ?_
  refine CW.region ?_
  refine RW.yl rfl rfl rfl (Yl.fieldAddr rfl rfl Try.underlying24 rfl sz22) ?_
  refine RW.yl rfl rfl rfl (Yl.load rfl rfl one22 (Blk.cell N1.blk rfl)) ?_
  obtain ⟨bx1, ox1, px1, cx1, hp1, hl1, hh1, hc1, hx1, hn1⟩ := (hv.mono (kept_from hB0 hB1 (Nat.le_refl _))).at 0 (by omega)
  refine RW.yl rfl rfl rfl (Yl.indexAddr1 (k := 0) rfl rfl rfl Try.underlying22 sz31 hp1 rfl (by omega)) ?_
  refine RW.yl rfl rfl rfl (Yl.load rfl rfl one31 hc1) ?_
  refine RW.yl rfl rfl rfl (Yl.len rfl rfl Try.underlying31) ?_
  refine RW.yl rfl rfl rfl (Yl.assign rfl rfl) ?_
  refine RW.nil ?_
  change CW _ _ _ _ _ _
  refine CW.ret ?_
  change FinQ _ _ _ _ _ _
  refine fin1 (.inr rfl) rfl rfl ?_
  exact ⟨_, rfl, rfl, hB1⟩

theorem c41 {w : World} {c t : Int} :
    Calls Try.prog 41 #[.int .i64 c, .int .i64 t] w (Ret fun r w' => r = .int .i64 (limG c t) ∧ Below w.heap.size w w') := by
  have hB0 : Below w.heap.size w w := Below.refl _ _
  refine Ev.calls (l := [.int .i64 c, .int .i64 t]) Try.func41 rfl rfl rfl ?_
  change CW _ _ _ _ [(0, .int .i64 c), (1, .int .i64 t)] _
  refine CW.seq ?_
  refine CW.region ?_
  refine RW.yl rfl rfl rfl (Yl.assign rfl rfl) ?_
  refine RW.nil ?_
  change CW _ _ _ _ _ _
  refine CW.seq ?_
  refine CW.seq ?_
  rcases Bool.eq_false_or_eq_true (decide (256 < c)) with hg1 | hg1
  ·
    have hq1 := of_decide_eq_true hg1
    first
    | (exfalso; omega)
    | (
      refine CW.region ?_
      refine RW.yl rfl rfl rfl (Yl.move rfl rfl) ?_
      refine RW.yl rfl rfl rfl (Yl.eqb (Yl.gtr rfl rfl rfl) hg1) ?_
      refine RW.yl rfl rfl rfl (Yl.move rfl rfl) ?_
      refine RW.skip rfl rfl rfl ?_
      refine RW.skip rfl rfl rfl ?_
      refine RW.yl rfl rfl rfl (Yl.pickT rfl rfl rfl) ?_
      refine RW.nil ?_
      change CW _ _ _ _ _ _
      refine CW.condT rfl ?_
      refine CW.seq ?_
      refine CW.region ?_
      refine RW.yl rfl rfl rfl (Yl.assign rfl rfl) ?_
      refine RW.nil ?_
      change CW _ _ _ _ _ _
      refine CW.ret ?_
      change FinQ _ _ _ _ _ _
      refine fin1 (.inr rfl) rfl rfl ?_
      exact ⟨_, rfl, ival (by first | exact (limG_pos (by omega)).symm | exact (limG_neg (by omega) (by omega)).symm), hB0⟩)
  ·
    have hq1 := of_decide_eq_false hg1
    first
    | (exfalso; omega)
    | (
      refine CW.region ?_
      refine RW.yl rfl rfl rfl (Yl.move rfl rfl) ?_
      refine RW.yl rfl rfl rfl (Yl.eqb (Yl.gtr rfl rfl rfl) hg1) ?_
      refine RW.yl rfl rfl rfl (Yl.move rfl rfl) ?_
      refine RW.yl rfl rfl rfl (Yl.move rfl rfl) ?_
      refine RW.yl rfl rfl rfl (Yl.gtr rfl rfl rfl) ?_
      refine RW.yl rfl rfl rfl (Yl.pickF rfl rfl rfl) ?_
      refine RW.nil ?_
      change CW _ _ _ _ _ _
      refine CW.cond rfl ?_ ?_
      ·
        intro hg2
        have hq3 := of_decide_eq_true hg2
        first
        | (exfalso; omega)
        | (
          refine CW.seq ?_
          refine CW.region ?_
          refine RW.yl rfl rfl rfl (Yl.assign rfl rfl) ?_
          refine RW.nil ?_
          change CW _ _ _ _ _ _
          refine CW.ret ?_
          change FinQ _ _ _ _ _ _
          refine fin1 (.inr rfl) rfl rfl ?_
          exact ⟨_, rfl, ival (by first | exact (limG_pos (by omega)).symm | exact (limG_neg (by omega) (by omega)).symm), hB0⟩)
      ·
        intro hg3
        have hq5 := of_decide_eq_false hg3
        first
        | (exfalso; omega)
        | (
          refine CW.skip ?_
          change CW _ _ _ _ _ _
          refine CW.seq ?_
          refine CW.region ?_
          refine RW.yl rfl rfl rfl (Yl.assign rfl rfl) ?_
          refine RW.nil ?_
          change CW _ _ _ _ _ _
          refine CW.ret ?_
          change FinQ _ _ _ _ _ _
          refine fin1 (.inr rfl) rfl rfl ?_
          exact ⟨_, rfl, ival (by first | exact (limG_pos (by omega)).symm | exact (limG_neg (by omega) (by omega)).symm), hB0⟩))

theorem c16 {w : World} {c t : Int} :
    Calls Try.prog 16 #[.int .i64 c, .int .i64 t] w (Ret fun r w' => r = .int .i64 (limG c t) ∧ Below w.heap.size w w') := by
  have hB0 : Below w.heap.size w w := Below.refl _ _
  refine Ev.calls (l := [.int .i64 c, .int .i64 t]) Try.func16 rfl rfl rfl ?_
  change CW _ _ _ _ [(0, .int .i64 c), (1, .int .i64 t)] _
  refine CW.seq ?_
  refine CW.region ?_
  refine RW.yl rfl rfl rfl (Yl.assign rfl rfl) ?_
  refine RW.nil ?_
  change CW _ _ _ _ _ _
  refine CW.seq ?_
  refine CW.seq ?_
  rcases Bool.eq_false_or_eq_true (decide (256 < c)) with hg1 | hg1
  ·
    have hq1 := of_decide_eq_true hg1
    first
    | (exfalso; omega)
    | (
      refine CW.region ?_
      refine RW.yl rfl rfl rfl (Yl.move rfl rfl) ?_
      refine RW.yl rfl rfl rfl (Yl.eqb (Yl.gtr rfl rfl rfl) hg1) ?_
      refine RW.yl rfl rfl rfl (Yl.move rfl rfl) ?_
      refine RW.skip rfl rfl rfl ?_
      refine RW.skip rfl rfl rfl ?_
      refine RW.yl rfl rfl rfl (Yl.pickT rfl rfl rfl) ?_
      refine RW.nil ?_
      change CW _ _ _ _ _ _
      refine CW.condT rfl ?_
      refine CW.seq ?_
      refine CW.region ?_
      refine RW.yl rfl rfl rfl (Yl.assign rfl rfl) ?_
      refine RW.nil ?_
      change CW _ _ _ _ _ _
      refine CW.ret ?_
      change FinQ _ _ _ _ _ _
      refine fin1 (.inr rfl) rfl rfl ?_
      exact ⟨_, rfl, ival (by first | exact (limG_pos (by omega)).symm | exact (limG_neg (by omega) (by omega)).symm), hB0⟩)
  ·
    have hq1 := of_decide_eq_false hg1
    first
    | (exfalso; omega)
    | (
      refine CW.region ?_
      refine RW.yl rfl rfl rfl (Yl.move rfl rfl) ?_
      refine RW.yl rfl rfl rfl (Yl.eqb (Yl.gtr rfl rfl rfl) hg1) ?_
      refine RW.yl rfl rfl rfl (Yl.move rfl rfl) ?_
      refine RW.yl rfl rfl rfl (Yl.move rfl rfl) ?_
      refine RW.yl rfl rfl rfl (Yl.gtr rfl rfl rfl) ?_
      refine RW.yl rfl rfl rfl (Yl.pickF rfl rfl rfl) ?_
      refine RW.nil ?_
      change CW _ _ _ _ _ _
      refine CW.cond rfl ?_ ?_
      ·
        intro hg2
        have hq3 := of_decide_eq_true hg2
        first
        | (exfalso; omega)
        | (
          refine CW.seq ?_
          refine CW.region ?_
          refine RW.yl rfl rfl rfl (Yl.assign rfl rfl) ?_
          refine RW.nil ?_
          change CW _ _ _ _ _ _
          refine CW.ret ?_
          change FinQ _ _ _ _ _ _
          refine fin1 (.inr rfl) rfl rfl ?_
          exact ⟨_, rfl, ival (by first | exact (limG_pos (by omega)).symm | exact (limG_neg (by omega) (by omega)).symm), hB0⟩)
      ·
        intro hg3
        have hq5 := of_decide_eq_false hg3
        first
        | (exfalso; omega)
        | (
          refine CW.skip ?_
          change CW _ _ _ _ _ _
          refine CW.seq ?_
          refine CW.region ?_
          refine RW.yl rfl rfl rfl (Yl.assign rfl rfl) ?_
          refine RW.nil ?_
          change CW _ _ _ _ _ _
          refine CW.ret ?_
          change FinQ _ _ _ _ _ _
          refine fin1 (.inr rfl) rfl rfl ?_
          exact ⟨_, rfl, ival (by first | exact (limG_pos (by omega)).symm | exact (limG_neg (by omega) (by omega)).symm), hB0⟩))

theorem c50 {w : World} {i j : Int} :
    Calls Try.prog 50 #[.int .i64 i, .int .i64 j] w (Ret fun r w' => r = .bool (weightsB i j) ∧ Below w.heap.size w w') := by
  have hB0 : Below w.heap.size w w := Below.refl _ _
  refine Ev.calls (l := [.int .i64 i, .int .i64 j]) Try.func50 rfl rfl rfl ?_
  change CW _ _ _ _ [(0, .int .i64 i), (1, .int .i64 j)] _
  refine CW.seq ?_
  refine CW.region ?_
  refine RW.yl rfl rfl rfl (Yl.assign rfl rfl) ?_
  refine RW.nil ?_
  change CW _ _ _ _ _ _
  refine CW.seq ?_
  rcases Bool.eq_false_or_eq_true (decide (1 ≤ (if j < i then j else i))) with hg1 | hg1
  ·
    have hq1 := of_decide_eq_true hg1
    first
    | (exfalso; omega)
    | (
      refine CW.region ?_
      refine RW.yl rfl rfl rfl (Yl.move rfl rfl) ?_
      refine RW.yl rfl rfl rfl (Yl.move rfl rfl) ?_
      refine RW.yl rfl rfl rfl (Yl.min rfl rfl rfl) ?_
      refine RW.yl rfl rfl rfl (Yl.eqb (Yl.geq rfl rfl rfl) hg1) ?_
      refine RW.yl rfl rfl rfl (Yl.move rfl rfl) ?_
      refine RW.yl rfl rfl rfl (Yl.move rfl rfl) ?_
      refine RW.yl rfl rfl rfl (Yl.move rfl rfl) ?_
      refine RW.yl rfl rfl rfl (Yl.max rfl rfl rfl) ?_
      refine RW.yl rfl rfl rfl (Yl.leq rfl rfl rfl) ?_
      refine RW.yl rfl rfl rfl (Yl.pickT rfl rfl rfl) ?_
      refine RW.yl rfl rfl rfl (Yl.assign rfl rfl) ?_
      refine RW.nil ?_
      change CW _ _ _ _ _ _
      refine CW.ret ?_
      change FinQ _ _ _ _ _ _
      refine fin1 (.inr rfl) rfl rfl ?_
      exact ⟨_, rfl, bval (by unfold weightsB; first | exact (decide_eq_false (by omega)).symm | exact (decide_eq_decide.2 (by split at * <;> omega)) | exact (decide_eq_decide.2 (by omega))), hB0⟩)
  ·
    have hq1 := of_decide_eq_false hg1
    first
    | (exfalso; omega)
    | (
      refine CW.region ?_
      refine RW.yl rfl rfl rfl (Yl.move rfl rfl) ?_
      refine RW.yl rfl rfl rfl (Yl.move rfl rfl) ?_
      refine RW.yl rfl rfl rfl (Yl.min rfl rfl rfl) ?_
      refine RW.yl rfl rfl rfl (Yl.eqb (Yl.geq rfl rfl rfl) hg1) ?_
      refine RW.yl rfl rfl rfl (Yl.move rfl rfl) ?_
      refine RW.skip rfl rfl rfl ?_
      refine RW.skip rfl rfl rfl ?_
      refine RW.skip rfl rfl rfl ?_
      refine RW.skip rfl rfl rfl ?_
      refine RW.yl rfl rfl rfl (Yl.pickF rfl rfl rfl) ?_
      refine RW.yl rfl rfl rfl (Yl.assign rfl rfl) ?_
      refine RW.nil ?_
      change CW _ _ _ _ _ _
      refine CW.ret ?_
      change FinQ _ _ _ _ _ _
      refine fin1 (.inr rfl) rfl rfl ?_
      exact ⟨_, rfl, bval (by unfold weightsB; first | exact (decide_eq_false (by omega)).symm | exact (decide_eq_decide.2 (by split at * <;> omega)) | exact (decide_eq_decide.2 (by omega))), hB0⟩)

theorem c42 {w : World} {v : Value} {m : List (List Int)} (hv : RRows 0 w.heap.size w v m) :
    Calls Try.prog 42 #[.agg #[v]] w (Ret fun r w' => r = .int .i64 (totG m) ∧ Below w.heap.size w w') := by
  obtain ⟨p, c, rfl, hl⟩ := hv.form
  have hB0 : Below w.heap.size w w := Below.refl _ _
  refine Ev.calls (l := [.agg #[.slice p m.length c]]) Try.func42 rfl rfl rfl ?_
  change CW _ _ _ _ [(0, .agg #[.slice p m.length c])] _
  refine CW.seq ?_
  refine CW.region ?_
  refine RW.newP (cs := #[.slice p m.length c]) (T := 24) rfl rfl rfl (Yv.box (v := .agg #[.slice p m.length c]) rfl rfl) ?_
  intro b1 w1 N1
  have lo_b1 : w.heap.size ≤ b1 := by have := hB0.size; have := N1.num; omega
  have hn_b1 := N1.num
  have hs_b1 := N1.size
  have hB1 := Bl.step hB0 N1.below
  refine RW.yl rfl rfl rfl (Yl.assign rfl rfl) ?_
  refine RW.nil ?_
  change CW _ _ _ _ _ _
  refine CW.seq ?_
  refine CW.seq ?_
  refine CW.region ?_
  refine RW.yl rfl rfl rfl (Yl.loadAgg (cs := [.slice p m.length c]) rfl rfl many24 (Blk.cells N1.blk)) ?_
  refine RW.fn rfl rfl rfl (Yc.func #[.agg #[.slice p m.length c]] rfl ok48 (args1 rfl)) (c48 ((hv.mono (kept_from hB0 hB1 (Nat.le_refl _))).wide (Nat.zero_le _) (by omega))) ?_
  rintro _ w2 ⟨rfl, H1⟩
  have hB2 := Bl.step hB1 H1
  have hK1 := Blk.below N1.blk H1
  have hz1 := H1.size
  refine RW.yl rfl rfl rfl (Yl.not rfl rfl) ?_
  refine RW.nil ?_
  change CW _ _ _ _ _ _
  refine CW.cond rfl ?_ ?_
  ·
    intro hg1
    have hg2 : validB m = false := not_t hg1
    first
    | (exfalso; omega)
    | (
      refine CW.seq ?_
      refine CW.region ?_
      refine RW.yl rfl rfl rfl (Yl.assign rfl rfl) ?_
      refine RW.nil ?_
      change CW _ _ _ _ _ _
      refine CW.ret ?_
      change FinQ _ _ _ _ _ _
      refine fin1 (.inr rfl) rfl rfl ?_
      exact ⟨_, rfl, ival (by unfold totG; first | rw [if_pos hg2] | rw [if_neg (by rw [hg2]; exact Bool.false_ne_true)]), hB2⟩)
  ·
    intro hg3
    have hg4 : validB m = true := not_f hg3
    have hpos := validB_len hg4
    first
    | (exfalso; omega)
    | (
      refine CW.skip ?_
      change CW _ _ _ _ _ _
      refine CW.seq ?_
      refine CW.region ?_
      refine RW.yl rfl rfl rfl (Yl.fieldAddr rfl rfl Try.underlying24 rfl sz22) ?_
      refine RW.yl rfl rfl rfl (Yl.load rfl rfl one22 (Blk.cell hK1 rfl)) ?_
      obtain ⟨bx1, ox1, px1, cx1, hp1, hl1, hh1, hc1, hx1, hn1⟩ := (hv.mono (kept_from hB0 hB2 (Nat.le_refl _))).at 0 (by omega)
      refine RW.yl rfl rfl rfl (Yl.indexAddr1 (k := 0) rfl rfl rfl Try.underlying22 sz31 hp1 rfl (by omega)) ?_
      refine RW.yl rfl rfl rfl (Yl.load rfl rfl one31 hc1) ?_
      refine RW.fn rfl rfl rfl (Yc.func #[.slice px1 ((m[0]!).length) cx1] rfl ok57 (args1 rfl)) (c57 (hx1.wide (Nat.zero_le _) (by omega))) ?_
      rintro _ w3 ⟨rfl, H2⟩
      have hB3 := Bl.step hB2 H2
      have hK2 := Blk.below hK1 H2
      have hz2 := H2.size
      refine RW.yl rfl rfl rfl (Yl.assign rfl rfl) ?_
      refine RW.nil ?_
      change CW _ _ _ _ _ _
      refine CW.ret ?_
      change FinQ _ _ _ _ _ _
      refine fin1 (.inr rfl) rfl rfl ?_
      exact ⟨_, rfl, ival (by unfold totG; first | rw [if_pos hg4] | rw [if_neg (by rw [hg4]; exact Bool.false_ne_true)]), hB3⟩)

theorem c39 {w : World} {v u : Value} {c d : List (List Int)} (hv : RRows 0 w.heap.size w v c) (hu : RRows 0 w.heap.size w u d) :
    Calls Try.prog 39 #[.agg #[v], .agg #[u]] w (Ret fun r w' => r = .int .i64 (pairG c d) ∧ Below w.heap.size w w') := by
  obtain ⟨p, cc, rfl, hl⟩ := hv.form
  obtain ⟨p2, cd, rfl, hl2⟩ := hu.form
  have hB0 : Below w.heap.size w w := Below.refl _ _
  refine Ev.calls (l := [.agg #[.slice p c.length cc], .agg #[.slice p2 d.length cd]]) Try.func39 rfl rfl rfl ?_
  change CW _ _ _ _ [(0, .agg #[.slice p c.length cc]), (1, .agg #[.slice p2 d.length cd])] _
  refine CW.seq ?_
  refine CW.region ?_
  refine RW.newP (cs := #[.slice p c.length cc]) (T := 24) rfl rfl rfl (Yv.box (v := .agg #[.slice p c.length cc]) rfl rfl) ?_
  intro b1 w1 N1
  have lo_b1 : w.heap.size ≤ b1 := by have := hB0.size; have := N1.num; omega
  have hn_b1 := N1.num
  have hs_b1 := N1.size
  have hB1 := Bl.step hB0 N1.below
  refine RW.newP (cs := #[.slice p2 d.length cd]) (T := 24) rfl rfl rfl (Yv.box (v := .agg #[.slice p2 d.length cd]) rfl rfl) ?_
  intro b2 w2 N2
  have ne1 := New.ne N2 N1.blk
  have lo_b2 : w.heap.size ≤ b2 := by have := hB1.size; have := N2.num; omega
  have hn_b2 := N2.num
  have hs_b2 := N2.size
  have hB2 := Bl.step hB1 N2.below
  have hK1 := Blk.below N1.blk N2.below
  refine RW.yl rfl rfl rfl (Yl.assign rfl rfl) ?_
  refine RW.nil ?_
  change CW _ _ _ _ _ _
  refine CW.seq ?_
  refine CW.seq ?_
  rcases Bool.eq_false_or_eq_true (validB c) with hg1 | hg1
  ·
    first
    | (exfalso; omega)
    | (
      refine CW.region ?_
      refine RW.yl rfl rfl rfl (Yl.loadAgg (cs := [.slice p c.length cc]) rfl rfl many24 (Blk.cells hK1)) ?_
      refine RW.fn rfl rfl rfl (Yc.func #[.agg #[.slice p c.length cc]] rfl ok48 (args1 rfl)) (c48 ((hv.mono (kept_from hB0 hB2 (Nat.le_refl _))).wide (Nat.zero_le _) (by omega))) ?_
      rintro _ w3 ⟨rfl, H1⟩
      have hB3 := Bl.step hB2 H1
      have hK2 := Blk.below hK1 H1
      have hK3 := Blk.below N2.blk H1
      have hz1 := H1.size
      rw [hg1]
      refine RW.yl rfl rfl rfl (Yl.not rfl rfl) ?_
      refine RW.yl rfl rfl rfl (Yl.move rfl rfl) ?_
      refine RW.yl rfl rfl rfl (Yl.loadAgg (cs := [.slice p2 d.length cd]) rfl rfl many24 (Blk.cells hK3)) ?_
      refine RW.fn rfl rfl rfl (Yc.func #[.agg #[.slice p2 d.length cd]] rfl ok48 (args1 rfl)) (c48 ((hu.mono (kept_from hB0 hB3 (Nat.le_refl _))).wide (Nat.zero_le _) (by omega))) ?_
      rintro _ w4 ⟨rfl, H2⟩
      have hB4 := Bl.step hB3 H2
      have hK4 := Blk.below hK2 H2
      have hK5 := Blk.below hK3 H2
      have hz2 := H2.size
      refine RW.yl rfl rfl rfl (Yl.not rfl rfl) ?_
      refine RW.yl rfl rfl rfl (Yl.pickF rfl rfl rfl) ?_
      refine RW.nil ?_
      change CW _ _ _ _ _ _
      refine CW.cond rfl ?_ ?_
      ·
        intro hg2
        have hg3 : validB d = false := not_t hg2
        first
        | (exfalso; omega)
        | (
          refine CW.seq ?_
          refine CW.region ?_
          refine RW.yl rfl rfl rfl (Yl.assign rfl rfl) ?_
          refine RW.nil ?_
          change CW _ _ _ _ _ _
          refine CW.ret ?_
          change FinQ _ _ _ _ _ _
          refine fin1 (.inr rfl) rfl rfl ?_
          exact ⟨_, rfl, ival (by unfold pairG; (try rw [hg1]); (try rw [hg3]); rfl), hB4⟩)
      ·
        intro hg4
        have hg5 : validB d = true := not_f hg4
        first
        | (exfalso; omega)
        | (
          refine CW.skip ?_
          change CW _ _ _ _ _ _
          refine CW.seq ?_
          refine CW.region ?_
          refine RW.yl rfl rfl rfl (Yl.assign rfl rfl) ?_
          refine RW.nil ?_
          change CW _ _ _ _ _ _
          refine CW.ret ?_
          change FinQ _ _ _ _ _ _
          refine fin1 (.inr rfl) rfl rfl ?_
          exact ⟨_, rfl, ival (by unfold pairG; (try rw [hg1]); (try rw [hg5]); rfl), hB4⟩))
  ·
    first
    | (exfalso; omega)
    | (
      refine CW.region ?_
      refine RW.yl rfl rfl rfl (Yl.loadAgg (cs := [.slice p c.length cc]) rfl rfl many24 (Blk.cells hK1)) ?_
      refine RW.fn rfl rfl rfl (Yc.func #[.agg #[.slice p c.length cc]] rfl ok48 (args1 rfl)) (c48 ((hv.mono (kept_from hB0 hB2 (Nat.le_refl _))).wide (Nat.zero_le _) (by omega))) ?_
      rintro _ w5 ⟨rfl, H3⟩
      have hB5 := Bl.step hB2 H3
      have hK6 := Blk.below hK1 H3
      have hK7 := Blk.below N2.blk H3
      have hz3 := H3.size
      rw [hg1]
      refine RW.yl rfl rfl rfl (Yl.not rfl rfl) ?_
      refine RW.yl rfl rfl rfl (Yl.move rfl rfl) ?_
      refine RW.skip rfl rfl rfl ?_
      refine RW.skip rfl rfl rfl ?_
      refine RW.skip rfl rfl rfl ?_
      refine RW.yl rfl rfl rfl (Yl.pickT rfl rfl rfl) ?_
      refine RW.nil ?_
      change CW _ _ _ _ _ _
      refine CW.condT rfl ?_
      refine CW.seq ?_
      refine CW.region ?_
      refine RW.yl rfl rfl rfl (Yl.assign rfl rfl) ?_
      refine RW.nil ?_
      change CW _ _ _ _ _ _
      refine CW.ret ?_
      change FinQ _ _ _ _ _ _
      refine fin1 (.inr rfl) rfl rfl ?_
      exact ⟨_, rfl, ival (by unfold pairG; (try rw [hg1]); rfl), hB5⟩)

theorem c18 {w : World} {v : Value} {m : List (List Int)} (hv : RRows 0 w.heap.size w v m) :
    Calls Try.prog 18 #[.agg #[v]] w (Ret fun r w' => r = .bool (decide ((m.length : Int) = 0)) ∧ Below w.heap.size w w') := by
  obtain ⟨p, c, rfl, hl⟩ := hv.form
  have hB0 : Below w.heap.size w w := Below.refl _ _
  refine Ev.calls (l := [.agg #[.slice p m.length c]]) Try.func18 rfl rfl rfl ?_
  change CW _ _ _ _ [(0, .agg #[.slice p m.length c])] _
  refine CW.seq ?_
  refine CW.region ?_
  refine RW.newP (cs := #[.slice p m.length c]) (T := 24) rfl rfl rfl (Yv.box (v := .agg #[.slice p m.length c]) rfl rfl) ?_
  intro b1 w1 N1
  have lo_b1 : w.heap.size ≤ b1 := by have := hB0.size; have := N1.num; omega
  have hn_b1 := N1.num
  have hs_b1 := N1.size
  have hB1 := Bl.step hB0 N1.below
  refine RW.yl rfl rfl rfl (Yl.assign rfl rfl) ?_
  refine RW.nil ?_
  change CW _ _ _ _ _ _
  refine CW.seq ?_
  refine CW.region ?_
  refine RW.yl rfl rfl rfl (Yl.fieldAddr rfl rfl Try.underlying24 rfl sz22) ?_
  refine RW.yl rfl rfl rfl (Yl.load rfl rfl one22 (Blk.cell N1.blk rfl)) ?_
  refine RW.yl rfl rfl rfl (Yl.len rfl rfl Try.underlying22) ?_
  refine RW.yl rfl rfl rfl (Yl.eql rfl rfl rfl) ?_
  refine RW.yl rfl rfl rfl (Yl.assign rfl rfl) ?_
  refine RW.nil ?_
  change CW _ _ _ _ _ _
  refine CW.ret ?_
  change FinQ _ _ _ _ _ _
  refine fin1 (.inr rfl) rfl rfl ?_
  exact ⟨_, rfl, rfl, hB1⟩

theorem c13 {w : World} {v : Value} {m : List (List Int)} (hv : RRows 0 w.heap.size w v m) {n : Int} :
    Calls Try.prog 13 #[.agg #[v], .int .i64 n] w (Ret fun r w' => r = .bool (smallB m n) ∧ Below w.heap.size w w') := by
  obtain ⟨p, c, rfl, hl⟩ := hv.form
  have hB0 : Below w.heap.size w w := Below.refl _ _
  refine Ev.calls (l := [.agg #[.slice p m.length c], .int .i64 n]) Try.func13 rfl rfl rfl ?_
  change CW _ _ _ _ [(0, .agg #[.slice p m.length c]), (1, .int .i64 n)] _
  refine CW.seq ?_
  refine CW.region ?_
  refine RW.newP (cs := #[.slice p m.length c]) (T := 24) rfl rfl rfl (Yv.box (v := .agg #[.slice p m.length c]) rfl rfl) ?_
  intro b1 w1 N1
  have lo_b1 : w.heap.size ≤ b1 := by have := hB0.size; have := N1.num; omega
  have hn_b1 := N1.num
  have hs_b1 := N1.size
  have hB1 := Bl.step hB0 N1.below
  refine RW.yl rfl rfl rfl (Yl.assign rfl rfl) ?_
  refine RW.nil ?_
  change CW _ _ _ _ _ _
  refine CW.seq ?_
  refine CW.seq ?_
  refine CW.region ?_
  refine RW.yl rfl rfl rfl (Yl.fieldAddr rfl rfl Try.underlying24 rfl sz22) ?_
  refine RW.yl rfl rfl rfl (Yl.load rfl rfl one22 (Blk.cell N1.blk rfl)) ?_
  refine RW.yl rfl rfl rfl (Yl.len rfl rfl Try.underlying22) ?_
  refine RW.yl rfl rfl rfl (Yl.move rfl rfl) ?_
  refine RW.yl rfl rfl rfl (Yl.gtr rfl rfl rfl) ?_
  refine RW.nil ?_
  change CW _ _ _ _ _ _
  refine CW.cond rfl ?_ ?_
  ·
    intro hg1
    have hq2 := of_decide_eq_true hg1
    first
    | (exfalso; omega)
    | (
      refine CW.seq ?_
      refine CW.region ?_
      refine RW.yl rfl rfl rfl (Yl.assign rfl rfl) ?_
      refine RW.nil ?_
      change CW _ _ _ _ _ _
      refine CW.ret ?_
      change FinQ _ _ _ _ _ _
      refine fin1 (.inr rfl) rfl rfl ?_
      exact ⟨_, rfl, bval (by first | exact (smallB_len (by omega)).symm | exact (smallB_no k (by omega) (by omega)).symm | exact (smallB_yes (by omega) (all_take_end _ _ k (by omega) hi2)).symm), hB1⟩)
  ·
    intro hg2
    have hq4 := of_decide_eq_false hg2
    first
    | (exfalso; omega)
    | (
      refine CW.skip ?_
      change CW _ _ _ _ _ _
      refine CW.seq ?_
      refine CW.seq ?_
      refine CW.region ?_
      refine RW.yl rfl rfl rfl (Yl.fieldAddr rfl rfl Try.underlying24 rfl sz22) ?_
      refine RW.yl rfl rfl rfl (Yl.load rfl rfl one22 (Blk.cell N1.blk rfl)) ?_
      refine RW.yl rfl rfl rfl (Yl.len rfl rfl Try.underlying22) ?_
      refine RW.yl rfl rfl rfl (Yl.move rfl rfl) ?_
      refine RW.nil ?_
      change CW _ _ _ _ _ _
      refine CW.block ?_
      refine CW.loop1 (fun (k : Nat) => [(1, .int .i64 n), (13, .slice p m.length c), (14, .int .i64 ((m.length : Nat) : Int)), (15, .int .i64 ((k : Nat) : Int))]) (fun k gm W => (gm = m.length - k) ∧ (k ≤ m.length) ∧ ((m.take k).all (fun r => decide ((r.length : Int) ≤ n)) = true) ∧ (Below w.heap.size w W) ∧ (Blk W b1 #[.slice p m.length c] 24) ∧ (w1.heap.size ≤ W.heap.size)) 0 (m.length - 0) ⟨rfl, (by first | assumption | omega | rfl | exact all_take_step _ _ _ (by omega) (by assumption) (decide_eq_true (by omega))), (by first | assumption | omega | rfl | exact all_take_step _ _ _ (by omega) (by assumption) (decide_eq_true (by omega))), hB1, N1.blk, (by omega)⟩ (Sub.cons rfl (Sub.cons rfl (Sub.cons rfl (Sub.cons rfl (Sub.nil))))) ?_
      intro k gm1 w2 hinv
      obtain ⟨hm1, hi1, hi2, hB2, hK1, hz1⟩ := hinv
      change CW _ _ _ _ [(1, .int .i64 n), (13, .slice p m.length c), (14, .int .i64 ((m.length : Nat) : Int)), (15, .int .i64 ((k : Nat) : Int))] _
      refine CW.seq ?_
      refine CW.region ?_
      refine RW.yl rfl rfl rfl (Yl.lss rfl rfl rfl) ?_
      refine RW.nil ?_
      change CW _ _ _ _ _ _
      refine CW.seq ?_
      refine CW.cond rfl ?_ ?_
      ·
        intro hg3
        have hq6 := of_decide_eq_true hg3
        first
        | (exfalso; omega)
        | (
          refine CW.skip ?_
          change CW _ _ _ _ _ _
          refine CW.seq ?_
          refine CW.block ?_
          refine CW.seq ?_
          refine CW.region ?_
          obtain ⟨bx1, ox1, px1, cx1, hp1, hl1, hh1, hc1, hx1, hn1⟩ := (hv.mono (kept_from hB0 hB2 (Nat.le_refl _))).at k (by omega)
          refine RW.yl rfl rfl rfl (Yl.indexAddr1 (k := k) rfl rfl rfl Try.underlying22 sz31 hp1 rfl (by omega)) ?_
          refine RW.yl rfl rfl rfl (Yl.load rfl rfl one31 hc1) ?_
          refine RW.yl rfl rfl rfl (Yl.assign rfl rfl) ?_
          refine RW.nil ?_
          change CW _ _ _ _ _ _
          refine CW.seq ?_
          refine CW.region ?_
          refine RW.yl rfl rfl rfl (Yl.move rfl rfl) ?_
          refine RW.yl rfl rfl rfl (Yl.len rfl rfl Try.underlying31) ?_
          refine RW.yl rfl rfl rfl (Yl.move rfl rfl) ?_
          refine RW.yl rfl rfl rfl (Yl.gtr rfl rfl rfl) ?_
          refine RW.nil ?_
          change CW _ _ _ _ _ _
          refine CW.cond rfl ?_ ?_
          ·
            intro hg4
            have hq8 := of_decide_eq_true hg4
            first
            | (exfalso; omega)
            | (
              refine CW.seq ?_
              refine CW.region ?_
              refine RW.yl rfl rfl rfl (Yl.assign rfl rfl) ?_
              refine RW.nil ?_
              change CW _ _ _ _ _ _
              refine CW.ret ?_
              change FinQ _ _ _ _ _ _
              refine fin1 (.inr rfl) rfl rfl ?_
              exact ⟨_, rfl, bval (by first | exact (smallB_len (by omega)).symm | exact (smallB_no k (by omega) (by omega)).symm | exact (smallB_yes (by omega) (all_take_end _ _ k (by omega) hi2)).symm), hB2⟩)
          ·
            intro hg5
            have hq10 := of_decide_eq_false hg5
            first
            | (exfalso; omega)
            | (
              refine CW.skip ?_
              change CW _ _ _ _ _ _
              refine CW.region ?_
              refine RW.yl rfl rfl rfl (Yl.addN (a := k) (b := 1) rfl rfl rfl (by omega)) ?_
              refine RW.yl rfl rfl rfl (Yl.move rfl rfl) ?_
              refine RW.nil ?_
              refine ⟨k + 1, m.length - (k + 1), by omega, ⟨rfl, (by first | assumption | omega | rfl | exact all_take_step _ _ _ (by omega) (by assumption) (decide_eq_true (by omega))), (by first | assumption | omega | rfl | exact all_take_step _ _ _ (by omega) (by assumption) (decide_eq_true (by omega))), hB2, hK1, (by omega)⟩, Sub.cons rfl (Sub.cons rfl (Sub.cons rfl (Sub.cons rfl (Sub.nil))))⟩))
      ·
        intro hg6
        have hq12 := of_decide_eq_false hg6
        first
        | (exfalso; omega)
        | (
          refine CW.exit ?_
          change CW _ _ _ _ _ _
          refine CW.seq ?_
          refine CW.region ?_
          refine RW.yl rfl rfl rfl (Yl.assign rfl rfl) ?_
          refine RW.nil ?_
          change CW _ _ _ _ _ _
          refine CW.ret ?_
          change FinQ _ _ _ _ _ _
          refine fin1 (.inr rfl) rfl rfl ?_
          exact ⟨_, rfl, bval (by first | exact (smallB_len (by omega)).symm | exact (smallB_no k (by omega) (by omega)).symm | exact (smallB_yes (by omega) (all_take_end _ _ k (by omega) hi2)).symm), hB2⟩))

end Go.Proofs.Ytodeffidnipelaa
