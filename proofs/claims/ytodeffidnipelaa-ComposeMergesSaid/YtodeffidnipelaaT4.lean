/- The functions of the statements. -/
import Derived.Test.YtodeffidnipelaaT3
namespace Go.Proofs.Ytodeffidnipelaa
open Go.RowKit Go.Ev

theorem sumGo_drop {s : Int} {l : List Int} {k : Nat} (_ : 0 ≤ s) (_ : s ≤ 1048576) (h : 0 ≤ sumGo s (l.drop k)) : (k < l.length → ¬ l[k]! < 0 ∧ ¬ 1048576 - s < l[k]!) ∧ True := by
  refine ⟨fun hk => ?_, trivial⟩
  rw [sumGo_step s l k hk] at h
  split at h
  · omega
  · omega

theorem all_next {α : Type} [Inhabited α] {c d : List α} {k : Nat} (h : ∀ i, i < k → c[i]! = d[i]!) (h1 : c[k]! = d[k]!) : ∀ i, i < k + 1 → c[i]! = d[i]! := fun i hi => by
  by_cases he : i = k
  · subst he; exact h1
  · exact h i (by omega)
theorem ne_len {α : Type} {c d : List α} (h : ¬ ((c.length : Nat) : Int) = ((d.length : Nat) : Int)) : ¬ c = d := fun e => h (by rw [e])
theorem ne_at {α : Type} [Inhabited α] {c d : List α} (k : Nat) (h : ¬ c[k]! = d[k]!) : ¬ c = d := fun e => h (by rw [e])
theorem eq_all {α : Type} [Inhabited α] {c d : List α} (hl : c.length = d.length) (h : ∀ i, i < c.length → c[i]! = d[i]!) : c = d := by
  apply List.ext_getElem hl
  intro i h1 h2
  have := h i h1
  rwa [getElem!_pos c i h1, getElem!_pos d i h2] at this
theorem maxL_one (l : List Int) : l[0]! = maxL l 1 := by
  show _ = if maxL l 0 < l[0]! then l[0]! else maxL l 0
  show _ = if l[0]! < l[0]! then l[0]! else l[0]!
  rw [if_neg (by omega)]

theorem c15 {w : World} {v : Value} {m : List (List Int)} (hv : RRows 0 w.heap.size w v m) :
    Calls Try.prog 15 #[.agg #[v]] w (Ret fun r w' => r = .bool (validB m) ∧ Below w.heap.size w w') := by
  obtain ⟨p, c, rfl, hl⟩ := hv.form
  have hB0 : Below w.heap.size w w := Below.refl _ _
  refine Ev.calls (l := [.agg #[.slice p m.length c]]) Try.func15 rfl rfl rfl ?_
  change CW _ _ _ _ [(0, .agg #[.slice p m.length c])] _
  refine CW.seq ?_
  refine CW.region ?_
  refine RW.newP (cs := #[.slice p m.length c]) (T := 24) rfl rfl rfl (Yv.box (v := .agg #[.slice p m.length c]) rfl rfl) ?_
  intro b1 w1 N1
  have lo_b1 : w.heap.size ≤ b1 := by have := hB0.size; have := N1.num; omega
  have hn_b1 := N1.num
  have hs_b1 := N1.size
  have hB1 := Bl.step hB0 N1.below
  refine RW.yl rfl rfl rfl (Yl.assign rfl rfl) ?_
  refine RW.nil ?_
  change CW _ _ _ _ _ _
  refine CW.seq ?_
  refine CW.seq ?_
  rcases Bool.eq_false_or_eq_true (decide (((m.length : Nat) : Int) < 1)) with hg1 | hg1
  ·
    have hq1 := of_decide_eq_true hg1
    first
    | (exfalso; omega)
    | (
      refine CW.region ?_
      refine RW.yl rfl rfl rfl (Yl.fieldAddr rfl rfl Try.underlying24 rfl sz22) ?_
      refine RW.yl rfl rfl rfl (Yl.load rfl rfl one22 (Blk.cell N1.blk rfl)) ?_
      refine RW.yl rfl rfl rfl (Yl.len rfl rfl Try.underlying22) ?_
      refine RW.yl rfl rfl rfl (Yl.eqb (Yl.lss rfl rfl rfl) hg1) ?_
      refine RW.yl rfl rfl rfl (Yl.move rfl rfl) ?_
      refine RW.skip rfl rfl rfl ?_
      refine RW.skip rfl rfl rfl ?_
      refine RW.skip rfl rfl rfl ?_
      refine RW.skip rfl rfl rfl ?_
      refine RW.yl rfl rfl rfl (Yl.pickT rfl rfl rfl) ?_
      refine RW.yl rfl rfl rfl (Yl.move rfl rfl) ?_
      refine RW.skip rfl rfl rfl ?_
      refine RW.skip rfl rfl rfl ?_
      refine RW.skip rfl rfl rfl ?_
      refine RW.skip rfl rfl rfl ?_
      refine RW.skip rfl rfl rfl ?_
      refine RW.skip rfl rfl rfl ?_
      refine RW.yl rfl rfl rfl (Yl.pickT rfl rfl rfl) ?_
      refine RW.yl rfl rfl rfl (Yl.move rfl rfl) ?_
      refine RW.skip rfl rfl rfl ?_
      refine RW.skip rfl rfl rfl ?_
      refine RW.skip rfl rfl rfl ?_
      refine RW.skip rfl rfl rfl ?_
      refine RW.skip rfl rfl rfl ?_
      refine RW.skip rfl rfl rfl ?_
      refine RW.yl rfl rfl rfl (Yl.pickT rfl rfl rfl) ?_
      refine RW.nil ?_
      change CW _ _ _ _ _ _
      refine CW.condT rfl ?_
      refine CW.seq ?_
      refine CW.region ?_
      refine RW.yl rfl rfl rfl (Yl.assign rfl rfl) ?_
      refine RW.nil ?_
      change CW _ _ _ _ _ _
      refine CW.ret ?_
      change FinQ _ _ _ _ _ _
      refine fin1 (.inr rfl) rfl rfl ?_
      exact ⟨_, rfl, bval (by first | exact (validB_dim (by omega)).symm | exact (validB_bad k (by omega) (.inl (by omega))).symm | exact (VInv_bad hi2 (by omega) (Eq.trans hi6 (sumGo_stop _ _ _ (by omega) (by omega))) (by omega)).symm | exact (VInv_bad hi2 (by omega) (Eq.trans hi6 (sumGo_end _ _ _ (by omega))) (by omega)).symm | exact (VInv_end hi2 (by omega) (by omega) (by omega) (by omega) (by omega)).symm), hB1⟩)
  ·
    have hq1 := of_decide_eq_false hg1
    first
    | (exfalso; omega)
    | (
      rcases Bool.eq_false_or_eq_true (decide (256 < ((m.length : Nat) : Int))) with hg2 | hg2
      ·
        have hq2 := of_decide_eq_true hg2
        first
        | (exfalso; omega)
        | (
          refine CW.region ?_
          refine RW.yl rfl rfl rfl (Yl.fieldAddr rfl rfl Try.underlying24 rfl sz22) ?_
          refine RW.yl rfl rfl rfl (Yl.load rfl rfl one22 (Blk.cell N1.blk rfl)) ?_
          refine RW.yl rfl rfl rfl (Yl.len rfl rfl Try.underlying22) ?_
          refine RW.yl rfl rfl rfl (Yl.eqb (Yl.lss rfl rfl rfl) hg1) ?_
          refine RW.yl rfl rfl rfl (Yl.move rfl rfl) ?_
          refine RW.yl rfl rfl rfl (Yl.fieldAddr rfl rfl Try.underlying24 rfl sz22) ?_
          refine RW.yl rfl rfl rfl (Yl.load rfl rfl one22 (Blk.cell N1.blk rfl)) ?_
          refine RW.yl rfl rfl rfl (Yl.len rfl rfl Try.underlying22) ?_
          refine RW.yl rfl rfl rfl (Yl.eqb (Yl.gtr rfl rfl rfl) hg2) ?_
          refine RW.yl rfl rfl rfl (Yl.pickF rfl rfl rfl) ?_
          refine RW.yl rfl rfl rfl (Yl.move rfl rfl) ?_
          refine RW.skip rfl rfl rfl ?_
          refine RW.skip rfl rfl rfl ?_
          refine RW.skip rfl rfl rfl ?_
          refine RW.skip rfl rfl rfl ?_
          refine RW.skip rfl rfl rfl ?_
          refine RW.skip rfl rfl rfl ?_
          refine RW.yl rfl rfl rfl (Yl.pickT rfl rfl rfl) ?_
          refine RW.yl rfl rfl rfl (Yl.move rfl rfl) ?_
          refine RW.skip rfl rfl rfl ?_
          refine RW.skip rfl rfl rfl ?_
          refine RW.skip rfl rfl rfl ?_
          refine RW.skip rfl rfl rfl ?_
          refine RW.skip rfl rfl rfl ?_
          refine RW.skip rfl rfl rfl ?_
          refine RW.yl rfl rfl rfl (Yl.pickT rfl rfl rfl) ?_
          refine RW.nil ?_
          change CW _ _ _ _ _ _
          refine CW.condT rfl ?_
          refine CW.seq ?_
          refine CW.region ?_
          refine RW.yl rfl rfl rfl (Yl.assign rfl rfl) ?_
          refine RW.nil ?_
          change CW _ _ _ _ _ _
          refine CW.ret ?_
          change FinQ _ _ _ _ _ _
          refine fin1 (.inr rfl) rfl rfl ?_
          exact ⟨_, rfl, bval (by first | exact (validB_dim (by omega)).symm | exact (validB_bad k (by omega) (.inl (by omega))).symm | exact (VInv_bad hi2 (by omega) (Eq.trans hi6 (sumGo_stop _ _ _ (by omega) (by omega))) (by omega)).symm | exact (VInv_bad hi2 (by omega) (Eq.trans hi6 (sumGo_end _ _ _ (by omega))) (by omega)).symm | exact (VInv_end hi2 (by omega) (by omega) (by omega) (by omega) (by omega)).symm), hB1⟩)
      ·
        have hq2 := of_decide_eq_false hg2
        first
        | (exfalso; omega)
        | (
          rcases Bool.eq_false_or_eq_true (decide ((((m[0]!).length : Nat) : Int) < 1)) with hg3 | hg3
          ·
            have hq3 := of_decide_eq_true hg3
            first
            | (exfalso; omega)
            | (
              refine CW.region ?_
              refine RW.yl rfl rfl rfl (Yl.fieldAddr rfl rfl Try.underlying24 rfl sz22) ?_
              refine RW.yl rfl rfl rfl (Yl.load rfl rfl one22 (Blk.cell N1.blk rfl)) ?_
              refine RW.yl rfl rfl rfl (Yl.len rfl rfl Try.underlying22) ?_
              refine RW.yl rfl rfl rfl (Yl.eqb (Yl.lss rfl rfl rfl) hg1) ?_
              refine RW.yl rfl rfl rfl (Yl.move rfl rfl) ?_
              refine RW.yl rfl rfl rfl (Yl.fieldAddr rfl rfl Try.underlying24 rfl sz22) ?_
              refine RW.yl rfl rfl rfl (Yl.load rfl rfl one22 (Blk.cell N1.blk rfl)) ?_
              refine RW.yl rfl rfl rfl (Yl.len rfl rfl Try.underlying22) ?_
              refine RW.yl rfl rfl rfl (Yl.eqb (Yl.gtr rfl rfl rfl) hg2) ?_
              refine RW.yl rfl rfl rfl (Yl.pickF rfl rfl rfl) ?_
              refine RW.yl rfl rfl rfl (Yl.move rfl rfl) ?_
              refine RW.yl rfl rfl rfl (Yl.fieldAddr rfl rfl Try.underlying24 rfl sz22) ?_
              refine RW.yl rfl rfl rfl (Yl.load rfl rfl one22 (Blk.cell N1.blk rfl)) ?_
              obtain ⟨bx1, ox1, px1, cx1, hp1, hl1, hh1, hc1, hx1, hn1⟩ := (hv.mono (kept_from hB0 hB1 (Nat.le_refl _))).at 0 (by omega)
              refine RW.yl rfl rfl rfl (Yl.indexAddr1 (k := 0) rfl rfl rfl Try.underlying22 sz31 hp1 rfl (by omega)) ?_
              refine RW.yl rfl rfl rfl (Yl.load rfl rfl one31 hc1) ?_
              refine RW.yl rfl rfl rfl (Yl.len rfl rfl Try.underlying31) ?_
              refine RW.yl rfl rfl rfl (Yl.eqb (Yl.lss rfl rfl rfl) hg3) ?_
              refine RW.yl rfl rfl rfl (Yl.pickF rfl rfl rfl) ?_
              refine RW.yl rfl rfl rfl (Yl.move rfl rfl) ?_
              refine RW.skip rfl rfl rfl ?_
              refine RW.skip rfl rfl rfl ?_
              refine RW.skip rfl rfl rfl ?_
              refine RW.skip rfl rfl rfl ?_
              refine RW.skip rfl rfl rfl ?_
              refine RW.skip rfl rfl rfl ?_
              refine RW.yl rfl rfl rfl (Yl.pickT rfl rfl rfl) ?_
              refine RW.nil ?_
              change CW _ _ _ _ _ _
              refine CW.condT rfl ?_
              refine CW.seq ?_
              refine CW.region ?_
              refine RW.yl rfl rfl rfl (Yl.assign rfl rfl) ?_
              refine RW.nil ?_
              change CW _ _ _ _ _ _
              refine CW.ret ?_
              change FinQ _ _ _ _ _ _
              refine fin1 (.inr rfl) rfl rfl ?_
              exact ⟨_, rfl, bval (by first | exact (validB_dim (by omega)).symm | exact (validB_bad k (by omega) (.inl (by omega))).symm | exact (VInv_bad hi2 (by omega) (Eq.trans hi6 (sumGo_stop _ _ _ (by omega) (by omega))) (by omega)).symm | exact (VInv_bad hi2 (by omega) (Eq.trans hi6 (sumGo_end _ _ _ (by omega))) (by omega)).symm | exact (VInv_end hi2 (by omega) (by omega) (by omega) (by omega) (by omega)).symm), hB1⟩)
          ·
            have hq3 := of_decide_eq_false hg3
            first
            | (exfalso; omega)
            | (
              refine CW.region ?_
              refine RW.yl rfl rfl rfl (Yl.fieldAddr rfl rfl Try.underlying24 rfl sz22) ?_
              refine RW.yl rfl rfl rfl (Yl.load rfl rfl one22 (Blk.cell N1.blk rfl)) ?_
              refine RW.yl rfl rfl rfl (Yl.len rfl rfl Try.underlying22) ?_
              refine RW.yl rfl rfl rfl (Yl.eqb (Yl.lss rfl rfl rfl) hg1) ?_
              refine RW.yl rfl rfl rfl (Yl.move rfl rfl) ?_
              refine RW.yl rfl rfl rfl (Yl.fieldAddr rfl rfl Try.underlying24 rfl sz22) ?_
              refine RW.yl rfl rfl rfl (Yl.load rfl rfl one22 (Blk.cell N1.blk rfl)) ?_
              refine RW.yl rfl rfl rfl (Yl.len rfl rfl Try.underlying22) ?_
              refine RW.yl rfl rfl rfl (Yl.eqb (Yl.gtr rfl rfl rfl) hg2) ?_
              refine RW.yl rfl rfl rfl (Yl.pickF rfl rfl rfl) ?_
              refine RW.yl rfl rfl rfl (Yl.move rfl rfl) ?_
              refine RW.yl rfl rfl rfl (Yl.fieldAddr rfl rfl Try.underlying24 rfl sz22) ?_
              refine RW.yl rfl rfl rfl (Yl.load rfl rfl one22 (Blk.cell N1.blk rfl)) ?_
              obtain ⟨bx2, ox2, px2, cx2, hp2, hl2, hh2, hc2, hx2, hn2⟩ := (hv.mono (kept_from hB0 hB1 (Nat.le_refl _))).at 0 (by omega)
              refine RW.yl rfl rfl rfl (Yl.indexAddr1 (k := 0) rfl rfl rfl Try.underlying22 sz31 hp2 rfl (by omega)) ?_
              refine RW.yl rfl rfl rfl (Yl.load rfl rfl one31 hc2) ?_
              refine RW.yl rfl rfl rfl (Yl.len rfl rfl Try.underlying31) ?_
              refine RW.yl rfl rfl rfl (Yl.eqb (Yl.lss rfl rfl rfl) hg3) ?_
              refine RW.yl rfl rfl rfl (Yl.pickF rfl rfl rfl) ?_
              refine RW.yl rfl rfl rfl (Yl.move rfl rfl) ?_
              refine RW.yl rfl rfl rfl (Yl.fieldAddr rfl rfl Try.underlying24 rfl sz22) ?_
              refine RW.yl rfl rfl rfl (Yl.load rfl rfl one22 (Blk.cell N1.blk rfl)) ?_
              obtain ⟨bx3, ox3, px3, cx3, hp3, hl3, hh3, hc3, hx3, hn3⟩ := (hv.mono (kept_from hB0 hB1 (Nat.le_refl _))).at 0 (by omega)
              refine RW.yl rfl rfl rfl (Yl.indexAddr1 (k := 0) rfl rfl rfl Try.underlying22 sz31 hp3 rfl (by omega)) ?_
              refine RW.yl rfl rfl rfl (Yl.load rfl rfl one31 hc3) ?_
              refine RW.yl rfl rfl rfl (Yl.len rfl rfl Try.underlying31) ?_
              refine RW.yl rfl rfl rfl (Yl.gtr rfl rfl rfl) ?_
              refine RW.yl rfl rfl rfl (Yl.pickF rfl rfl rfl) ?_
              refine RW.nil ?_
              change CW _ _ _ _ _ _
              refine CW.cond rfl ?_ ?_
              ·
                intro hg4
                have hq5 := of_decide_eq_true hg4
                first
                | (exfalso; omega)
                | (
                  refine CW.seq ?_
                  refine CW.region ?_
                  refine RW.yl rfl rfl rfl (Yl.assign rfl rfl) ?_
                  refine RW.nil ?_
                  change CW _ _ _ _ _ _
                  refine CW.ret ?_
                  change FinQ _ _ _ _ _ _
                  refine fin1 (.inr rfl) rfl rfl ?_
                  exact ⟨_, rfl, bval (by first | exact (validB_dim (by omega)).symm | exact (validB_bad k (by omega) (.inl (by omega))).symm | exact (VInv_bad hi2 (by omega) (Eq.trans hi6 (sumGo_stop _ _ _ (by omega) (by omega))) (by omega)).symm | exact (VInv_bad hi2 (by omega) (Eq.trans hi6 (sumGo_end _ _ _ (by omega))) (by omega)).symm | exact (VInv_end hi2 (by omega) (by omega) (by omega) (by omega) (by omega)).symm), hB1⟩)
              ·
                intro hg5
                have hq7 := of_decide_eq_false hg5
                first
                | (exfalso; omega)
                | (
                  refine CW.skip ?_
                  change CW _ _ _ _ _ _
                  refine CW.seq ?_
                  refine CW.region ?_
                  refine RW.yl rfl rfl rfl (Yl.assign rfl rfl) ?_
                  refine RW.nil ?_
                  change CW _ _ _ _ _ _
                  refine CW.seq ?_
                  refine CW.seq ?_
                  refine CW.region ?_
                  refine RW.yl rfl rfl rfl (Yl.fieldAddr rfl rfl Try.underlying24 rfl sz22) ?_
                  refine RW.yl rfl rfl rfl (Yl.load rfl rfl one22 (Blk.cell N1.blk rfl)) ?_
                  refine RW.yl rfl rfl rfl (Yl.len rfl rfl Try.underlying22) ?_
                  refine RW.yl rfl rfl rfl (Yl.move rfl rfl) ?_
                  refine RW.nil ?_
                  change CW _ _ _ _ _ _
                  refine CW.block ?_
                  refine CW.loop2 (fun (k : Nat) (F : Int) => [(1, .pointer (some ⟨b1, 0, none⟩)), (3, .int .i64 F), (36, .slice p m.length c), (37, .int .i64 ((m.length : Nat) : Int)), (38, .int .i64 ((k : Nat) : Int))]) (fun k F gm W => (gm = m.length - k) ∧ (k ≤ m.length) ∧ (VInv m k F) ∧ (Below w.heap.size w W) ∧ (Blk W b1 #[.slice p m.length c] 24) ∧ (w1.heap.size ≤ W.heap.size)) 0 0 (m.length - 0) ⟨rfl, (by first | assumption | omega | rfl | (first | exact VInv_start m | exact VInv_next hi2 (by omega) (Eq.trans (by assumption) (sumGo_end _ _ _ (by omega))) (by omega) (by omega))), (by first | assumption | omega | rfl | (first | exact VInv_start m | exact VInv_next hi2 (by omega) (Eq.trans (by assumption) (sumGo_end _ _ _ (by omega))) (by omega) (by omega))), hB1, N1.blk, (by omega)⟩ (Sub.cons rfl (Sub.cons rfl (Sub.cons rfl (Sub.cons rfl (Sub.cons rfl (Sub.nil)))))) ?_
                  intro k F gm1 w2 hinv
                  obtain ⟨hm1, hi1, hi2, hB2, hK1, hz1⟩ := hinv
                  change CW _ _ _ _ [(1, .pointer (some ⟨b1, 0, none⟩)), (3, .int .i64 F), (36, .slice p m.length c), (37, .int .i64 ((m.length : Nat) : Int)), (38, .int .i64 ((k : Nat) : Int))] _
                  refine CW.seq ?_
                  refine CW.region ?_
                  refine RW.yl rfl rfl rfl (Yl.lss rfl rfl rfl) ?_
                  refine RW.nil ?_
                  change CW _ _ _ _ _ _
                  refine CW.seq ?_
                  refine CW.cond rfl ?_ ?_
                  ·
                    intro hg6
                    have hq9 := of_decide_eq_true hg6
                    first
                    | (exfalso; omega)
                    | (
                      refine CW.skip ?_
                      change CW _ _ _ _ _ _
                      refine CW.seq ?_
                      refine CW.block ?_
                      refine CW.seq ?_
                      refine CW.region ?_
                      refine RW.yl rfl rfl rfl (Yl.move rfl rfl) ?_
                      obtain ⟨bx4, ox4, px4, cx4, hp4, hl4, hh4, hc4, hx4, hn4⟩ := (hv.mono (kept_from hB0 hB2 (Nat.le_refl _))).at k (by omega)
                      refine RW.yl rfl rfl rfl (Yl.indexAddr1 (k := k) rfl rfl rfl Try.underlying22 sz31 hp4 rfl (by omega)) ?_
                      refine RW.yl rfl rfl rfl (Yl.load rfl rfl one31 hc4) ?_
                      refine RW.yl rfl rfl rfl (Yl.assign rfl rfl) ?_
                      refine RW.yl rfl rfl rfl (Yl.assign rfl rfl) ?_
                      refine RW.nil ?_
                      change CW _ _ _ _ _ _
                      refine CW.seq ?_
                      refine CW.seq ?_
                      refine CW.region ?_
                      refine RW.yl rfl rfl rfl (Yl.move rfl rfl) ?_
                      refine RW.yl rfl rfl rfl (Yl.len rfl rfl Try.underlying31) ?_
                      refine RW.yl rfl rfl rfl (Yl.fieldAddr rfl rfl Try.underlying24 rfl sz22) ?_
                      refine RW.yl rfl rfl rfl (Yl.load rfl rfl one22 (Blk.cell hK1 rfl)) ?_
                      obtain ⟨bx5, ox5, px5, cx5, hp5, hl5, hh5, hc5, hx5, hn5⟩ := (hv.mono (kept_from hB0 hB2 (Nat.le_refl _))).at 0 (by omega)
                      refine RW.yl rfl rfl rfl (Yl.indexAddr1 (k := 0) rfl rfl rfl Try.underlying22 sz31 hp5 rfl (by omega)) ?_
                      refine RW.yl rfl rfl rfl (Yl.load rfl rfl one31 hc5) ?_
                      refine RW.yl rfl rfl rfl (Yl.len rfl rfl Try.underlying31) ?_
                      refine RW.yl rfl rfl rfl (Yl.neq rfl rfl rfl) ?_
                      refine RW.nil ?_
                      change CW _ _ _ _ _ _
                      refine CW.cond rfl ?_ ?_
                      ·
                        intro hg7
                        have hg8 : decide ((((m[k]!).length : Nat) : Int) = (((m[0]!).length : Nat) : Int)) = false := not_t hg7
                        have hq11 := of_decide_eq_false hg8
                        first
                        | (exfalso; omega)
                        | (
                          refine CW.seq ?_
                          refine CW.region ?_
                          refine RW.yl rfl rfl rfl (Yl.assign rfl rfl) ?_
                          refine RW.nil ?_
                          change CW _ _ _ _ _ _
                          refine CW.ret ?_
                          change FinQ _ _ _ _ _ _
                          refine fin1 (.inr rfl) rfl rfl ?_
                          exact ⟨_, rfl, bval (by first | exact (validB_dim (by omega)).symm | exact (validB_bad k (by omega) (.inl (by omega))).symm | exact (VInv_bad hi2 (by omega) (Eq.trans hi6 (sumGo_stop _ _ _ (by omega) (by omega))) (by omega)).symm | exact (VInv_bad hi2 (by omega) (Eq.trans hi6 (sumGo_end _ _ _ (by omega))) (by omega)).symm | exact (VInv_end hi2 (by omega) (by omega) (by omega) (by omega) (by omega)).symm), hB2⟩)
                      ·
                        intro hg9
                        have hg10 : decide ((((m[k]!).length : Nat) : Int) = (((m[0]!).length : Nat) : Int)) = true := not_f hg9
                        have hq13 := of_decide_eq_true hg10
                        first
                        | (exfalso; omega)
                        | (
                          refine CW.skip ?_
                          change CW _ _ _ _ _ _
                          refine CW.seq ?_
                          refine CW.region ?_
                          refine RW.yl rfl rfl rfl (Yl.assign rfl rfl) ?_
                          refine RW.nil ?_
                          change CW _ _ _ _ _ _
                          refine CW.seq ?_
                          refine CW.seq ?_
                          refine CW.region ?_
                          refine RW.yl rfl rfl rfl (Yl.move rfl rfl) ?_
                          refine RW.yl rfl rfl rfl (Yl.len rfl rfl Try.underlying31) ?_
                          refine RW.yl rfl rfl rfl (Yl.move rfl rfl) ?_
                          refine RW.nil ?_
                          change CW _ _ _ _ _ _
                          refine CW.block ?_
                          refine CW.loop2 (fun (j : Nat) (s : Int) => [(1, .pointer (some ⟨b1, 0, none⟩)), (3, .int .i64 F), (4, .int .i64 ((k : Nat) : Int)), (5, .slice px4 ((m[k]!).length) cx4), (6, .int .i64 s), (36, .slice p m.length c), (37, .int .i64 ((m.length : Nat) : Int)), (38, .int .i64 ((k : Nat) : Int)), (39, .bool (decide (((k : Nat) : Int) < ((m.length : Nat) : Int)))), (40, .int .i64 ((k : Nat) : Int)), (41, .pointer (some ⟨bx4, ox4 + k, none⟩)), (42, .slice px4 ((m[k]!).length) cx4), (43, .slice px4 ((m[k]!).length) cx4), (44, .int .i64 (((m[k]!).length : Nat) : Int)), (45, .pointer (some ⟨b1, 0, none⟩)), (46, .slice p m.length c), (47, .pointer (some ⟨bx5, ox5 + 0, none⟩)), (48, .slice px5 ((m[0]!).length) cx5), (49, .int .i64 (((m[0]!).length : Nat) : Int)), (50, .bool (!(decide ((((m[k]!).length : Nat) : Int) = (((m[0]!).length : Nat) : Int))))), (51, .slice px4 ((m[k]!).length) cx4), (52, .int .i64 (((m[k]!).length : Nat) : Int)), (53, .int .i64 ((j : Nat) : Int))]) (fun j s gm W => (gm = (m[k]!).length - j) ∧ (j ≤ (m[k]!).length) ∧ (0 ≤ s) ∧ (s ≤ 1048576) ∧ (sumGo 0 m[k]! = sumGo s ((m[k]!).drop j)) ∧ (Below w.heap.size w W) ∧ (Blk W b1 #[.slice p m.length c] 24) ∧ (w2.heap.size ≤ W.heap.size)) 0 0 ((m[k]!).length - 0) ⟨rfl, (by first | assumption | omega | rfl | exact Eq.trans (by assumption) (sumGo_next _ _ _ (by omega) (by omega) (by omega))), (by first | assumption | omega | rfl | exact Eq.trans (by assumption) (sumGo_next _ _ _ (by omega) (by omega) (by omega))), (by first | assumption | omega | rfl | exact Eq.trans (by assumption) (sumGo_next _ _ _ (by omega) (by omega) (by omega))), (by first | assumption | omega | rfl | exact Eq.trans (by assumption) (sumGo_next _ _ _ (by omega) (by omega) (by omega))), hB2, hK1, (by omega)⟩ (Sub.cons rfl (Sub.cons rfl (Sub.cons rfl (Sub.cons rfl (Sub.cons rfl (Sub.cons rfl (Sub.cons rfl (Sub.cons rfl (Sub.cons rfl (Sub.cons rfl (Sub.cons rfl (Sub.cons rfl (Sub.cons rfl (Sub.cons rfl (Sub.cons rfl (Sub.cons rfl (Sub.cons rfl (Sub.cons rfl (Sub.cons rfl (Sub.cons rfl (Sub.cons rfl (Sub.cons rfl (Sub.cons rfl (Sub.nil)))))))))))))))))))))))) ?_
                          intro j s gm2 w3 hinv
                          obtain ⟨hm2, hi3, hi4, hi5, hi6, hB3, hK2, hz2⟩ := hinv
                          change CW _ _ _ _ [(1, .pointer (some ⟨b1, 0, none⟩)), (3, .int .i64 F), (4, .int .i64 ((k : Nat) : Int)), (5, .slice px4 ((m[k]!).length) cx4), (6, .int .i64 s), (36, .slice p m.length c), (37, .int .i64 ((m.length : Nat) : Int)), (38, .int .i64 ((k : Nat) : Int)), (39, .bool (decide (((k : Nat) : Int) < ((m.length : Nat) : Int)))), (40, .int .i64 ((k : Nat) : Int)), (41, .pointer (some ⟨bx4, ox4 + k, none⟩)), (42, .slice px4 ((m[k]!).length) cx4), (43, .slice px4 ((m[k]!).length) cx4), (44, .int .i64 (((m[k]!).length : Nat) : Int)), (45, .pointer (some ⟨b1, 0, none⟩)), (46, .slice p m.length c), (47, .pointer (some ⟨bx5, ox5 + 0, none⟩)), (48, .slice px5 ((m[0]!).length) cx5), (49, .int .i64 (((m[0]!).length : Nat) : Int)), (50, .bool (!(decide ((((m[k]!).length : Nat) : Int) = (((m[0]!).length : Nat) : Int))))), (51, .slice px4 ((m[k]!).length) cx4), (52, .int .i64 (((m[k]!).length : Nat) : Int)), (53, .int .i64 ((j : Nat) : Int))] _
                          refine CW.seq ?_
                          refine CW.region ?_
                          refine RW.yl rfl rfl rfl (Yl.lss rfl rfl rfl) ?_
                          refine RW.nil ?_
                          change CW _ _ _ _ _ _
                          refine CW.seq ?_
                          refine CW.cond rfl ?_ ?_
                          ·
                            intro hg11
                            have hq15 := of_decide_eq_true hg11
                            first
                            | (exfalso; omega)
                            | (
                              refine CW.skip ?_
                              change CW _ _ _ _ _ _
                              refine CW.seq ?_
                              refine CW.block ?_
                              refine CW.seq ?_
                              refine CW.region ?_
                              obtain ⟨bx6, ox6, hp6, hl6, hh6, hc6⟩ := (hx4.mono (kept_from hB2 hB3 (Nat.le_refl _))).at j (by omega)
                              refine RW.yl rfl rfl rfl (Yl.indexAddr1 (k := j) rfl rfl rfl Try.underlying31 sz3 hp6 rfl (by omega)) ?_
                              refine RW.yl rfl rfl rfl (Yl.load rfl rfl one3 hc6) ?_
                              refine RW.yl rfl rfl rfl (Yl.assign rfl rfl) ?_
                              refine RW.nil ?_
                              change CW _ _ _ _ _ _
                              refine CW.seq ?_
                              refine CW.seq ?_
                              rcases Bool.eq_false_or_eq_true (decide (((m[k]!)[j]!) < 0)) with hg12 | hg12
                              ·
                                have hq16 := of_decide_eq_true hg12
                                first
                                | (exfalso; omega)
                                | (
                                  refine CW.region ?_
                                  refine RW.yl rfl rfl rfl (Yl.move rfl rfl) ?_
                                  refine RW.yl rfl rfl rfl (Yl.eqb (Yl.lss rfl rfl rfl) hg12) ?_
                                  refine RW.yl rfl rfl rfl (Yl.move rfl rfl) ?_
                                  refine RW.skip rfl rfl rfl ?_
                                  refine RW.skip rfl rfl rfl ?_
                                  refine RW.skip rfl rfl rfl ?_
                                  refine RW.skip rfl rfl rfl ?_
                                  refine RW.yl rfl rfl rfl (Yl.pickT rfl rfl rfl) ?_
                                  refine RW.nil ?_
                                  change CW _ _ _ _ _ _
                                  refine CW.condT rfl ?_
                                  refine CW.seq ?_
                                  refine CW.region ?_
                                  refine RW.yl rfl rfl rfl (Yl.assign rfl rfl) ?_
                                  refine RW.nil ?_
                                  change CW _ _ _ _ _ _
                                  refine CW.ret ?_
                                  change FinQ _ _ _ _ _ _
                                  refine fin1 (.inr rfl) rfl rfl ?_
                                  exact ⟨_, rfl, bval (by first | exact (validB_dim (by omega)).symm | exact (validB_bad k (by omega) (.inl (by omega))).symm | exact (VInv_bad hi2 (by omega) (Eq.trans hi6 (sumGo_stop _ _ _ (by omega) (by omega))) (by omega)).symm | exact (VInv_bad hi2 (by omega) (Eq.trans hi6 (sumGo_end _ _ _ (by omega))) (by omega)).symm | exact (VInv_end hi2 (by omega) (by omega) (by omega) (by omega) (by omega)).symm), hB3⟩)
                              ·
                                have hq16 := of_decide_eq_false hg12
                                first
                                | (exfalso; omega)
                                | (
                                  refine CW.region ?_
                                  refine RW.yl rfl rfl rfl (Yl.move rfl rfl) ?_
                                  refine RW.yl rfl rfl rfl (Yl.eqb (Yl.lss rfl rfl rfl) hg12) ?_
                                  refine RW.yl rfl rfl rfl (Yl.move rfl rfl) ?_
                                  refine RW.yl rfl rfl rfl (Yl.move rfl rfl) ?_
                                  refine RW.yl rfl rfl rfl (Yl.move rfl rfl) ?_
                                  refine RW.yl rfl rfl rfl (Yl.sub (m := 1048576) (n := s) rfl rfl rfl (by omega)) ?_
                                  refine RW.yl rfl rfl rfl (Yl.gtr rfl rfl rfl) ?_
                                  refine RW.yl rfl rfl rfl (Yl.pickF rfl rfl rfl) ?_
                                  refine RW.nil ?_
                                  change CW _ _ _ _ _ _
                                  refine CW.cond rfl ?_ ?_
                                  ·
                                    intro hg13
                                    have hq18 := of_decide_eq_true hg13
                                    first
                                    | (exfalso; omega)
                                    | (
                                      refine CW.seq ?_
                                      refine CW.region ?_
                                      refine RW.yl rfl rfl rfl (Yl.assign rfl rfl) ?_
                                      refine RW.nil ?_
                                      change CW _ _ _ _ _ _
                                      refine CW.ret ?_
                                      change FinQ _ _ _ _ _ _
                                      refine fin1 (.inr rfl) rfl rfl ?_
                                      exact ⟨_, rfl, bval (by first | exact (validB_dim (by omega)).symm | exact (validB_bad k (by omega) (.inl (by omega))).symm | exact (VInv_bad hi2 (by omega) (Eq.trans hi6 (sumGo_stop _ _ _ (by omega) (by omega))) (by omega)).symm | exact (VInv_bad hi2 (by omega) (Eq.trans hi6 (sumGo_end _ _ _ (by omega))) (by omega)).symm | exact (VInv_end hi2 (by omega) (by omega) (by omega) (by omega) (by omega)).symm), hB3⟩)
                                  ·
                                    intro hg14
                                    have hq20 := of_decide_eq_false hg14
                                    first
                                    | (exfalso; omega)
                                    | (
                                      refine CW.skip ?_
                                      change CW _ _ _ _ _ _
                                      refine CW.region ?_
                                      refine RW.yl rfl rfl rfl (Yl.move rfl rfl) ?_
                                      refine RW.yl rfl rfl rfl (Yl.move rfl rfl) ?_
                                      refine RW.yl rfl rfl rfl (Yl.add (m := s) (n := ((m[k]!)[j]!)) rfl rfl rfl (by omega)) ?_
                                      refine RW.yl rfl rfl rfl (Yl.assign rfl rfl) ?_
                                      refine RW.nil ?_
                                      change CW _ _ _ _ _ _
                                      refine CW.region ?_
                                      refine RW.yl rfl rfl rfl (Yl.addN (a := j) (b := 1) rfl rfl rfl (by omega)) ?_
                                      refine RW.yl rfl rfl rfl (Yl.move rfl rfl) ?_
                                      refine RW.nil ?_
                                      refine ⟨(j + 1, s + ((m[k]!)[j]!)), (m[k]!).length - (j + 1), by omega, ⟨rfl, (by first | assumption | omega | rfl | exact Eq.trans (by assumption) (sumGo_next _ _ _ (by omega) (by omega) (by omega))), (by first | assumption | omega | rfl | exact Eq.trans (by assumption) (sumGo_next _ _ _ (by omega) (by omega) (by omega))), (by first | assumption | omega | rfl | exact Eq.trans (by assumption) (sumGo_next _ _ _ (by omega) (by omega) (by omega))), (by first | assumption | omega | rfl | exact Eq.trans (by assumption) (sumGo_next _ _ _ (by omega) (by omega) (by omega))), hB3, hK2, (by omega)⟩, Sub.cons rfl (Sub.cons rfl (Sub.cons rfl (Sub.cons rfl (Sub.cons rfl (Sub.cons rfl (Sub.cons rfl (Sub.cons rfl (Sub.cons rfl (Sub.cons rfl (Sub.cons rfl (Sub.cons rfl (Sub.cons rfl (Sub.cons rfl (Sub.cons rfl (Sub.cons rfl (Sub.cons rfl (Sub.cons rfl (Sub.cons rfl (Sub.cons rfl (Sub.cons rfl (Sub.cons rfl (Sub.cons rfl (Sub.nil)))))))))))))))))))))))⟩)))
                          ·
                            intro hg15
                            have hq22 := of_decide_eq_false hg15
                            first
                            | (exfalso; omega)
                            | (
                              refine CW.exit ?_
                              change CW _ _ _ _ _ _
                              refine CW.seq ?_
                              refine CW.seq ?_
                              refine CW.region ?_
                              refine RW.yl rfl rfl rfl (Yl.move rfl rfl) ?_
                              refine RW.yl rfl rfl rfl (Yl.eql rfl rfl rfl) ?_
                              refine RW.nil ?_
                              change CW _ _ _ _ _ _
                              refine CW.cond rfl ?_ ?_
                              ·
                                intro hg16
                                have hq24 := of_decide_eq_true hg16
                                first
                                | (exfalso; omega)
                                | (
                                  refine CW.region ?_
                                  refine RW.yl rfl rfl rfl (Yl.move rfl rfl) ?_
                                  refine RW.yl rfl rfl rfl (Yl.assign rfl rfl) ?_
                                  refine RW.nil ?_
                                  change CW _ _ _ _ _ _
                                  refine CW.seq ?_
                                  rcases Bool.eq_false_or_eq_true (decide (s < 1)) with hg17 | hg17
                                  ·
                                    have hq25 := of_decide_eq_true hg17
                                    first
                                    | (exfalso; omega)
                                    | (
                                      refine CW.region ?_
                                      refine RW.yl rfl rfl rfl (Yl.move rfl rfl) ?_
                                      refine RW.yl rfl rfl rfl (Yl.eqb (Yl.lss rfl rfl rfl) hg17) ?_
                                      refine RW.yl rfl rfl rfl (Yl.move rfl rfl) ?_
                                      refine RW.skip rfl rfl rfl ?_
                                      refine RW.skip rfl rfl rfl ?_
                                      refine RW.skip rfl rfl rfl ?_
                                      refine RW.yl rfl rfl rfl (Yl.pickT rfl rfl rfl) ?_
                                      refine RW.nil ?_
                                      change CW _ _ _ _ _ _
                                      refine CW.condT rfl ?_
                                      refine CW.seq ?_
                                      refine CW.region ?_
                                      refine RW.yl rfl rfl rfl (Yl.assign rfl rfl) ?_
                                      refine RW.nil ?_
                                      change CW _ _ _ _ _ _
                                      refine CW.ret ?_
                                      change FinQ _ _ _ _ _ _
                                      refine fin1 (.inr rfl) rfl rfl ?_
                                      exact ⟨_, rfl, bval (by first | exact (validB_dim (by omega)).symm | exact (validB_bad k (by omega) (.inl (by omega))).symm | exact (VInv_bad hi2 (by omega) (Eq.trans hi6 (sumGo_stop _ _ _ (by omega) (by omega))) (by omega)).symm | exact (VInv_bad hi2 (by omega) (Eq.trans hi6 (sumGo_end _ _ _ (by omega))) (by omega)).symm | exact (VInv_end hi2 (by omega) (by omega) (by omega) (by omega) (by omega)).symm), hB3⟩)
                                  ·
                                    have hq25 := of_decide_eq_false hg17
                                    first
                                    | (exfalso; omega)
                                    | (
                                      refine CW.region ?_
                                      refine RW.yl rfl rfl rfl (Yl.move rfl rfl) ?_
                                      refine RW.yl rfl rfl rfl (Yl.eqb (Yl.lss rfl rfl rfl) hg17) ?_
                                      refine RW.yl rfl rfl rfl (Yl.move rfl rfl) ?_
                                      refine RW.yl rfl rfl rfl (Yl.move rfl rfl) ?_
                                      refine RW.yl rfl rfl rfl (Yl.move rfl rfl) ?_
                                      refine RW.yl rfl rfl rfl (Yl.neq rfl rfl rfl) ?_
                                      refine RW.yl rfl rfl rfl (Yl.pickF rfl rfl rfl) ?_
                                      refine RW.nil ?_
                                      change CW _ _ _ _ _ _
                                      refine CW.cond rfl ?_ ?_
                                      ·
                                        intro hg18
                                        have hg19 : decide (s = s) = false := not_t hg18
                                        have hq27 := of_decide_eq_false hg19
                                        first
                                        | (exfalso; omega)
                                        | (
                                          refine CW.seq ?_
                                          refine CW.region ?_
                                          refine RW.yl rfl rfl rfl (Yl.assign rfl rfl) ?_
                                          refine RW.nil ?_
                                          change CW _ _ _ _ _ _
                                          refine CW.ret ?_
                                          change FinQ _ _ _ _ _ _
                                          refine fin1 (.inr rfl) rfl rfl ?_
                                          exact ⟨_, rfl, bval (by first | exact (validB_dim (by omega)).symm | exact (validB_bad k (by omega) (.inl (by omega))).symm | exact (VInv_bad hi2 (by omega) (Eq.trans hi6 (sumGo_stop _ _ _ (by omega) (by omega))) (by omega)).symm | exact (VInv_bad hi2 (by omega) (Eq.trans hi6 (sumGo_end _ _ _ (by omega))) (by omega)).symm | exact (VInv_end hi2 (by omega) (by omega) (by omega) (by omega) (by omega)).symm), hB3⟩)
                                      ·
                                        intro hg20
                                        have hg21 : decide (s = s) = true := not_f hg20
                                        have hq29 := of_decide_eq_true hg21
                                        first
                                        | (exfalso; omega)
                                        | (
                                          refine CW.skip ?_
                                          change CW _ _ _ _ _ _
                                          refine CW.region ?_
                                          refine RW.yl rfl rfl rfl (Yl.addN (a := k) (b := 1) rfl rfl rfl (by omega)) ?_
                                          refine RW.yl rfl rfl rfl (Yl.move rfl rfl) ?_
                                          refine RW.nil ?_
                                          refine ⟨(k + 1, s), m.length - (k + 1), by omega, ⟨rfl, (by first | assumption | omega | rfl | (first | exact VInv_start m | exact VInv_next hi2 (by omega) (Eq.trans (by assumption) (sumGo_end _ _ _ (by omega))) (by omega) (by omega))), (by first | assumption | omega | rfl | (first | exact VInv_start m | exact VInv_next hi2 (by omega) (Eq.trans (by assumption) (sumGo_end _ _ _ (by omega))) (by omega) (by omega))), hB3, hK2, (by omega)⟩, Sub.cons rfl (Sub.cons rfl (Sub.cons rfl (Sub.cons rfl (Sub.cons rfl (Sub.nil)))))⟩)))
                              ·
                                intro hg22
                                have hq31 := of_decide_eq_false hg22
                                first
                                | (exfalso; omega)
                                | (
                                  refine CW.skip ?_
                                  change CW _ _ _ _ _ _
                                  refine CW.seq ?_
                                  rcases Bool.eq_false_or_eq_true (decide (s < 1)) with hg23 | hg23
                                  ·
                                    have hq32 := of_decide_eq_true hg23
                                    first
                                    | (exfalso; omega)
                                    | (
                                      refine CW.region ?_
                                      refine RW.yl rfl rfl rfl (Yl.move rfl rfl) ?_
                                      refine RW.yl rfl rfl rfl (Yl.eqb (Yl.lss rfl rfl rfl) hg23) ?_
                                      refine RW.yl rfl rfl rfl (Yl.move rfl rfl) ?_
                                      refine RW.skip rfl rfl rfl ?_
                                      refine RW.skip rfl rfl rfl ?_
                                      refine RW.skip rfl rfl rfl ?_
                                      refine RW.yl rfl rfl rfl (Yl.pickT rfl rfl rfl) ?_
                                      refine RW.nil ?_
                                      change CW _ _ _ _ _ _
                                      refine CW.condT rfl ?_
                                      refine CW.seq ?_
                                      refine CW.region ?_
                                      refine RW.yl rfl rfl rfl (Yl.assign rfl rfl) ?_
                                      refine RW.nil ?_
                                      change CW _ _ _ _ _ _
                                      refine CW.ret ?_
                                      change FinQ _ _ _ _ _ _
                                      refine fin1 (.inr rfl) rfl rfl ?_
                                      exact ⟨_, rfl, bval (by first | exact (validB_dim (by omega)).symm | exact (validB_bad k (by omega) (.inl (by omega))).symm | exact (VInv_bad hi2 (by omega) (Eq.trans hi6 (sumGo_stop _ _ _ (by omega) (by omega))) (by omega)).symm | exact (VInv_bad hi2 (by omega) (Eq.trans hi6 (sumGo_end _ _ _ (by omega))) (by omega)).symm | exact (VInv_end hi2 (by omega) (by omega) (by omega) (by omega) (by omega)).symm), hB3⟩)
                                  ·
                                    have hq32 := of_decide_eq_false hg23
                                    first
                                    | (exfalso; omega)
                                    | (
                                      refine CW.region ?_
                                      refine RW.yl rfl rfl rfl (Yl.move rfl rfl) ?_
                                      refine RW.yl rfl rfl rfl (Yl.eqb (Yl.lss rfl rfl rfl) hg23) ?_
                                      refine RW.yl rfl rfl rfl (Yl.move rfl rfl) ?_
                                      refine RW.yl rfl rfl rfl (Yl.move rfl rfl) ?_
                                      refine RW.yl rfl rfl rfl (Yl.move rfl rfl) ?_
                                      refine RW.yl rfl rfl rfl (Yl.neq rfl rfl rfl) ?_
                                      refine RW.yl rfl rfl rfl (Yl.pickF rfl rfl rfl) ?_
                                      refine RW.nil ?_
                                      change CW _ _ _ _ _ _
                                      refine CW.cond rfl ?_ ?_
                                      ·
                                        intro hg24
                                        have hg25 : decide (s = F) = false := not_t hg24
                                        have hq34 := of_decide_eq_false hg25
                                        first
                                        | (exfalso; omega)
                                        | (
                                          refine CW.seq ?_
                                          refine CW.region ?_
                                          refine RW.yl rfl rfl rfl (Yl.assign rfl rfl) ?_
                                          refine RW.nil ?_
                                          change CW _ _ _ _ _ _
                                          refine CW.ret ?_
                                          change FinQ _ _ _ _ _ _
                                          refine fin1 (.inr rfl) rfl rfl ?_
                                          exact ⟨_, rfl, bval (by first | exact (validB_dim (by omega)).symm | exact (validB_bad k (by omega) (.inl (by omega))).symm | exact (VInv_bad hi2 (by omega) (Eq.trans hi6 (sumGo_stop _ _ _ (by omega) (by omega))) (by omega)).symm | exact (VInv_bad hi2 (by omega) (Eq.trans hi6 (sumGo_end _ _ _ (by omega))) (by omega)).symm | exact (VInv_end hi2 (by omega) (by omega) (by omega) (by omega) (by omega)).symm), hB3⟩)
                                      ·
                                        intro hg26
                                        have hg27 : decide (s = F) = true := not_f hg26
                                        have hq36 := of_decide_eq_true hg27
                                        first
                                        | (exfalso; omega)
                                        | (
                                          refine CW.skip ?_
                                          change CW _ _ _ _ _ _
                                          refine CW.region ?_
                                          refine RW.yl rfl rfl rfl (Yl.addN (a := k) (b := 1) rfl rfl rfl (by omega)) ?_
                                          refine RW.yl rfl rfl rfl (Yl.move rfl rfl) ?_
                                          refine RW.nil ?_
                                          refine ⟨(k + 1, F), m.length - (k + 1), by omega, ⟨rfl, (by first | assumption | omega | rfl | (first | exact VInv_start m | exact VInv_next hi2 (by omega) (Eq.trans (by assumption) (sumGo_end _ _ _ (by omega))) (by omega) (by omega))), (by first | assumption | omega | rfl | (first | exact VInv_start m | exact VInv_next hi2 (by omega) (Eq.trans (by assumption) (sumGo_end _ _ _ (by omega))) (by omega) (by omega))), hB3, hK2, (by omega)⟩, Sub.cons rfl (Sub.cons rfl (Sub.cons rfl (Sub.cons rfl (Sub.cons rfl (Sub.nil)))))⟩))))))
                  ·
                    intro hg28
                    have hq38 := of_decide_eq_false hg28
                    first
                    | (exfalso; omega)
                    | (
                      refine CW.exit ?_
                      change CW _ _ _ _ _ _
                      refine CW.seq ?_
                      refine CW.region ?_
                      refine RW.yl rfl rfl rfl (Yl.assign rfl rfl) ?_
                      refine RW.nil ?_
                      change CW _ _ _ _ _ _
                      refine CW.ret ?_
                      change FinQ _ _ _ _ _ _
                      refine fin1 (.inr rfl) rfl rfl ?_
                      exact ⟨_, rfl, bval (by first | exact (validB_dim (by omega)).symm | exact (validB_bad k (by omega) (.inl (by omega))).symm | exact (VInv_bad hi2 (by omega) (Eq.trans hi6 (sumGo_stop _ _ _ (by omega) (by omega))) (by omega)).symm | exact (VInv_bad hi2 (by omega) (Eq.trans hi6 (sumGo_end _ _ _ (by omega))) (by omega)).symm | exact (VInv_end hi2 (by omega) (by omega) (by omega) (by omega) (by omega)).symm), hB2⟩)))))

theorem c17 {w : World} {v : Value} {m : List (List Int)} (hv : RRows 0 w.heap.size w v m) {R C : Nat} {T : Int} (hm : Chan m R C T) :
    Calls Try.prog 17 #[.agg #[v]] w (Ret fun r w' => r = .int .i64 T ∧ Below w.heap.size w w') := by
  obtain ⟨p, c, rfl, hl⟩ := hv.form
  have hR := hm.rows
  have hR1 := hm.r1
  have hT := hm.t2
  have hS0 := hm.sum 0 (by omega)
  have hT1 := hm.t1
  have hB0 : Below w.heap.size w w := Below.refl _ _
  refine Ev.calls (l := [.agg #[.slice p m.length c]]) Try.func17 rfl rfl rfl ?_
  change CW _ _ _ _ [(0, .agg #[.slice p m.length c])] _
  refine CW.seq ?_
  refine CW.region ?_
  refine RW.newP (cs := #[.slice p m.length c]) (T := 24) rfl rfl rfl (Yv.box (v := .agg #[.slice p m.length c]) rfl rfl) ?_
  intro b1 w1 N1
  have lo_b1 : w.heap.size ≤ b1 := by have := hB0.size; have := N1.num; omega
  have hn_b1 := N1.num
  have hs_b1 := N1.size
  have hB1 := Bl.step hB0 N1.below
  refine RW.yl rfl rfl rfl (Yl.assign rfl rfl) ?_
  refine RW.nil ?_
  change CW _ _ _ _ _ _
  refine CW.seq ?_
  refine CW.region ?_
  refine RW.yl rfl rfl rfl (Yl.assign rfl rfl) ?_
  refine RW.nil ?_
  change CW _ _ _ _ _ _
  refine CW.seq ?_
  refine CW.seq ?_
  refine CW.region ?_
  refine RW.yl rfl rfl rfl (Yl.fieldAddr rfl rfl Try.underlying24 rfl sz22) ?_
  refine RW.yl rfl rfl rfl (Yl.load rfl rfl one22 (Blk.cell N1.blk rfl)) ?_
  obtain ⟨bx1, ox1, px1, cx1, hp1, hl1, hh1, hc1, hx1, hn1⟩ := (hv.mono (kept_from hB0 hB1 (Nat.le_refl _))).at 0 (by omega)
  refine RW.yl rfl rfl rfl (Yl.indexAddr1 (k := 0) rfl rfl rfl Try.underlying22 sz31 hp1 rfl (by omega)) ?_
  refine RW.yl rfl rfl rfl (Yl.load rfl rfl one31 hc1) ?_
  refine RW.yl rfl rfl rfl (Yl.len rfl rfl Try.underlying31) ?_
  refine RW.yl rfl rfl rfl (Yl.move rfl rfl) ?_
  refine RW.nil ?_
  change CW _ _ _ _ _ _
  refine CW.block ?_
  refine CW.loop2 (fun (k : Nat) (s : Int) => [(2, .int .i64 0), (3, .int .i64 s), (9, .slice px1 ((m[0]!).length) cx1), (10, .int .i64 (((m[0]!).length : Nat) : Int)), (11, .int .i64 ((k : Nat) : Int))]) (fun k s gm W => (gm = (m[0]!).length - k) ∧ (k ≤ (m[0]!).length) ∧ (0 ≤ s) ∧ (s ≤ 1048576) ∧ (sumGo 0 m[0]! = sumGo s ((m[0]!).drop k)) ∧ (Below w.heap.size w W) ∧ (Blk W b1 #[.slice p m.length c] 24) ∧ (w1.heap.size ≤ W.heap.size)) 0 0 ((m[0]!).length - 0) ⟨rfl, (by first | assumption | omega | rfl | (first | exact Eq.trans (by assumption) (sumGo_next _ _ _ (by omega) (by have := hb.1 (by omega); omega) (by have := hb.1 (by omega); omega)) | (have := hb.1 (by omega); omega))), (by first | assumption | omega | rfl | (first | exact Eq.trans (by assumption) (sumGo_next _ _ _ (by omega) (by have := hb.1 (by omega); omega) (by have := hb.1 (by omega); omega)) | (have := hb.1 (by omega); omega))), (by first | assumption | omega | rfl | (first | exact Eq.trans (by assumption) (sumGo_next _ _ _ (by omega) (by have := hb.1 (by omega); omega) (by have := hb.1 (by omega); omega)) | (have := hb.1 (by omega); omega))), (by first | assumption | omega | rfl | (first | exact Eq.trans (by assumption) (sumGo_next _ _ _ (by omega) (by have := hb.1 (by omega); omega) (by have := hb.1 (by omega); omega)) | (have := hb.1 (by omega); omega))), hB1, N1.blk, (by omega)⟩ (Sub.cons rfl (Sub.cons rfl (Sub.cons rfl (Sub.cons rfl (Sub.cons rfl (Sub.nil)))))) ?_
  intro k s gm1 w2 hinv
  obtain ⟨hm1, hi1, hi2, hi3, hi4, hB2, hK1, hz1⟩ := hinv
  change CW _ _ _ _ [(2, .int .i64 0), (3, .int .i64 s), (9, .slice px1 ((m[0]!).length) cx1), (10, .int .i64 (((m[0]!).length : Nat) : Int)), (11, .int .i64 ((k : Nat) : Int))] _
  have hb := sumGo_drop hi2 hi3 (show 0 ≤ sumGo s ((m[0]!).drop k) by omega)
  refine CW.seq ?_
  refine CW.region ?_
  refine RW.yl rfl rfl rfl (Yl.lss rfl rfl rfl) ?_
  refine RW.nil ?_
  change CW _ _ _ _ _ _
  refine CW.seq ?_
  refine CW.cond rfl ?_ ?_
  ·
    intro hg1
    have hq2 := of_decide_eq_true hg1
    first
    | (exfalso; omega)
    | (
      refine CW.skip ?_
      change CW _ _ _ _ _ _
      refine CW.seq ?_
      refine CW.block ?_
      refine CW.seq ?_
      refine CW.region ?_
      obtain ⟨bx2, ox2, hp2, hl2, hh2, hc2⟩ := (hx1.mono (kept_from hB1 hB2 (Nat.le_refl _))).at k (by omega)
      refine RW.yl rfl rfl rfl (Yl.indexAddr1 (k := k) rfl rfl rfl Try.underlying31 sz3 hp2 rfl (by omega)) ?_
      refine RW.yl rfl rfl rfl (Yl.load rfl rfl one3 hc2) ?_
      refine RW.yl rfl rfl rfl (Yl.assign rfl rfl) ?_
      refine RW.nil ?_
      change CW _ _ _ _ _ _
      refine CW.region ?_
      refine RW.yl rfl rfl rfl (Yl.move rfl rfl) ?_
      refine RW.yl rfl rfl rfl (Yl.move rfl rfl) ?_
      refine RW.yl rfl rfl rfl (Yl.add (m := s) (n := ((m[0]!)[k]!)) rfl rfl rfl (by first | omega | (have := hb.1 (by omega); omega))) ?_
      refine RW.yl rfl rfl rfl (Yl.assign rfl rfl) ?_
      refine RW.nil ?_
      change CW _ _ _ _ _ _
      refine CW.region ?_
      refine RW.yl rfl rfl rfl (Yl.addN (a := k) (b := 1) rfl rfl rfl (by first | omega | (have := hb.1 (by omega); omega))) ?_
      refine RW.yl rfl rfl rfl (Yl.move rfl rfl) ?_
      refine RW.nil ?_
      refine ⟨(k + 1, s + ((m[0]!)[k]!)), (m[0]!).length - (k + 1), by omega, ⟨rfl, (by first | assumption | omega | rfl | (first | exact Eq.trans (by assumption) (sumGo_next _ _ _ (by omega) (by have := hb.1 (by omega); omega) (by have := hb.1 (by omega); omega)) | (have := hb.1 (by omega); omega))), (by first | assumption | omega | rfl | (first | exact Eq.trans (by assumption) (sumGo_next _ _ _ (by omega) (by have := hb.1 (by omega); omega) (by have := hb.1 (by omega); omega)) | (have := hb.1 (by omega); omega))), (by first | assumption | omega | rfl | (first | exact Eq.trans (by assumption) (sumGo_next _ _ _ (by omega) (by have := hb.1 (by omega); omega) (by have := hb.1 (by omega); omega)) | (have := hb.1 (by omega); omega))), (by first | assumption | omega | rfl | (first | exact Eq.trans (by assumption) (sumGo_next _ _ _ (by omega) (by have := hb.1 (by omega); omega) (by have := hb.1 (by omega); omega)) | (have := hb.1 (by omega); omega))), hB2, hK1, (by omega)⟩, Sub.cons rfl (Sub.cons rfl (Sub.cons rfl (Sub.cons rfl (Sub.cons rfl (Sub.nil)))))⟩)
  ·
    intro hg2
    have hq4 := of_decide_eq_false hg2
    first
    | (exfalso; omega)
    | (
      refine CW.exit ?_
      change CW _ _ _ _ _ _
      refine CW.seq ?_
      refine CW.region ?_
      refine RW.yl rfl rfl rfl (Yl.move rfl rfl) ?_
      refine RW.yl rfl rfl rfl (Yl.assign rfl rfl) ?_
      refine RW.nil ?_
      change CW _ _ _ _ _ _
      refine CW.ret ?_
      change FinQ _ _ _ _ _ _
      refine fin1 (.inr rfl) rfl rfl ?_
      exact ⟨_, rfl, ival (by have := sumGo_end s m[0]! k (by omega); omega), hB2⟩)

theorem c22 {w : World} {v u : Value} {c d : List (List Int)} (hv : RRows 0 w.heap.size w v c) (hu : RRows 0 w.heap.size w u d) :
    Calls Try.prog 22 #[.agg #[v], .agg #[u]] w (Ret fun r w' => r = .int .i64 (lpairG c d) ∧ Below w.heap.size w w') := by
  obtain ⟨p, cc, rfl, hl⟩ := hv.form
  obtain ⟨p2, cd, rfl, hl2⟩ := hu.form
  have hB0 : Below w.heap.size w w := Below.refl _ _
  refine Ev.calls (l := [.agg #[.slice p c.length cc], .agg #[.slice p2 d.length cd]]) Try.func22 rfl rfl rfl ?_
  change CW _ _ _ _ [(0, .agg #[.slice p c.length cc]), (1, .agg #[.slice p2 d.length cd])] _
  refine CW.seq ?_
  refine CW.region ?_
  refine RW.newP (cs := #[.slice p c.length cc]) (T := 24) rfl rfl rfl (Yv.box (v := .agg #[.slice p c.length cc]) rfl rfl) ?_
  intro b1 w1 N1
  have lo_b1 : w.heap.size ≤ b1 := by have := hB0.size; have := N1.num; omega
  have hn_b1 := N1.num
  have hs_b1 := N1.size
  have hB1 := Bl.step hB0 N1.below
  refine RW.newP (cs := #[.slice p2 d.length cd]) (T := 24) rfl rfl rfl (Yv.box (v := .agg #[.slice p2 d.length cd]) rfl rfl) ?_
  intro b2 w2 N2
  have ne1 := New.ne N2 N1.blk
  have lo_b2 : w.heap.size ≤ b2 := by have := hB1.size; have := N2.num; omega
  have hn_b2 := N2.num
  have hs_b2 := N2.size
  have hB2 := Bl.step hB1 N2.below
  have hK1 := Blk.below N1.blk N2.below
  refine RW.yl rfl rfl rfl (Yl.assign rfl rfl) ?_
  refine RW.nil ?_
  change CW _ _ _ _ _ _
  refine CW.seq ?_
  refine CW.seq ?_
  rcases Bool.eq_false_or_eq_true (validB c) with hg1 | hg1
  ·
    first
    | (exfalso; omega)
    | (
      refine CW.region ?_
      refine RW.yl rfl rfl rfl (Yl.loadAgg (cs := [.slice p c.length cc]) rfl rfl many24 (Blk.cells hK1)) ?_
      refine RW.fn rfl rfl rfl (Yc.func #[.agg #[.slice p c.length cc]] rfl ok15 (args1 rfl)) (c15 ((hv.mono (kept_from hB0 hB2 (Nat.le_refl _))).wide (Nat.zero_le _) (by omega))) ?_
      rintro _ w3 ⟨rfl, H1⟩
      have hB3 := Bl.step hB2 H1
      have hK2 := Blk.below hK1 H1
      have hK3 := Blk.below N2.blk H1
      have hz1 := H1.size
      rw [hg1]
      refine RW.yl rfl rfl rfl (Yl.not rfl rfl) ?_
      refine RW.yl rfl rfl rfl (Yl.move rfl rfl) ?_
      refine RW.yl rfl rfl rfl (Yl.loadAgg (cs := [.slice p2 d.length cd]) rfl rfl many24 (Blk.cells hK3)) ?_
      refine RW.fn rfl rfl rfl (Yc.func #[.agg #[.slice p2 d.length cd]] rfl ok15 (args1 rfl)) (c15 ((hu.mono (kept_from hB0 hB3 (Nat.le_refl _))).wide (Nat.zero_le _) (by omega))) ?_
      rintro _ w4 ⟨rfl, H2⟩
      have hB4 := Bl.step hB3 H2
      have hK4 := Blk.below hK2 H2
      have hK5 := Blk.below hK3 H2
      have hz2 := H2.size
      refine RW.yl rfl rfl rfl (Yl.not rfl rfl) ?_
      refine RW.yl rfl rfl rfl (Yl.pickF rfl rfl rfl) ?_
      refine RW.nil ?_
      change CW _ _ _ _ _ _
      refine CW.cond rfl ?_ ?_
      ·
        intro hg2
        have hg3 : validB d = false := not_t hg2
        first
        | (exfalso; omega)
        | (
          refine CW.seq ?_
          refine CW.region ?_
          refine RW.yl rfl rfl rfl (Yl.assign rfl rfl) ?_
          refine RW.nil ?_
          change CW _ _ _ _ _ _
          refine CW.ret ?_
          change FinQ _ _ _ _ _ _
          refine fin1 (.inr rfl) rfl rfl ?_
          exact ⟨_, rfl, ival (by unfold lpairG; (try rw [hg1]); (try rw [hg3]); first | rfl | (rw [if_pos (show (true && true) = true from rfl), if_neg (by omega)]) | (rw [if_pos (show (true && true) = true from rfl), if_pos (by omega)])), hB4⟩)
      ·
        intro hg4
        have hg5 : validB d = true := not_f hg4
        first
        | (exfalso; omega)
        | (
          refine CW.skip ?_
          change CW _ _ _ _ _ _
          refine CW.seq ?_
          refine CW.seq ?_
          refine CW.region ?_
          refine RW.yl rfl rfl rfl (Yl.fieldAddr rfl rfl Try.underlying24 rfl sz22) ?_
          refine RW.yl rfl rfl rfl (Yl.load rfl rfl one22 (Blk.cell hK4 rfl)) ?_
          refine RW.yl rfl rfl rfl (Yl.len rfl rfl Try.underlying22) ?_
          refine RW.yl rfl rfl rfl (Yl.fieldAddr rfl rfl Try.underlying24 rfl sz22) ?_
          refine RW.yl rfl rfl rfl (Yl.load rfl rfl one22 (Blk.cell hK5 rfl)) ?_
          refine RW.yl rfl rfl rfl (Yl.len rfl rfl Try.underlying22) ?_
          refine RW.yl rfl rfl rfl (Yl.neq rfl rfl rfl) ?_
          refine RW.nil ?_
          change CW _ _ _ _ _ _
          refine CW.cond rfl ?_ ?_
          ·
            intro hg6
            have hg7 : decide (((c.length : Nat) : Int) = ((d.length : Nat) : Int)) = false := not_t hg6
            have hq5 := of_decide_eq_false hg7
            first
            | (exfalso; omega)
            | (
              refine CW.seq ?_
              refine CW.region ?_
              refine RW.yl rfl rfl rfl (Yl.assign rfl rfl) ?_
              refine RW.nil ?_
              change CW _ _ _ _ _ _
              refine CW.ret ?_
              change FinQ _ _ _ _ _ _
              refine fin1 (.inr rfl) rfl rfl ?_
              exact ⟨_, rfl, ival (by unfold lpairG; (try rw [hg1]); (try rw [hg5]); (try rw [hg7]); first | rfl | (rw [if_pos (show (true && true) = true from rfl), if_neg (by omega)]) | (rw [if_pos (show (true && true) = true from rfl), if_pos (by omega)])), hB4⟩)
          ·
            intro hg8
            have hg9 : decide (((c.length : Nat) : Int) = ((d.length : Nat) : Int)) = true := not_f hg8
            have hq7 := of_decide_eq_true hg9
            first
            | (exfalso; omega)
            | (
              refine CW.skip ?_
              change CW _ _ _ _ _ _
              refine CW.seq ?_
              refine CW.region ?_
              refine RW.yl rfl rfl rfl (Yl.assign rfl rfl) ?_
              refine RW.nil ?_
              change CW _ _ _ _ _ _
              refine CW.ret ?_
              change FinQ _ _ _ _ _ _
              refine fin1 (.inr rfl) rfl rfl ?_
              exact ⟨_, rfl, ival (by unfold lpairG; (try rw [hg1]); (try rw [hg5]); (try rw [hg9]); first | rfl | (rw [if_pos (show (true && true) = true from rfl), if_neg (by omega)]) | (rw [if_pos (show (true && true) = true from rfl), if_pos (by omega)])), hB4⟩)))
  ·
    first
    | (exfalso; omega)
    | (
      refine CW.region ?_
      refine RW.yl rfl rfl rfl (Yl.loadAgg (cs := [.slice p c.length cc]) rfl rfl many24 (Blk.cells hK1)) ?_
      refine RW.fn rfl rfl rfl (Yc.func #[.agg #[.slice p c.length cc]] rfl ok15 (args1 rfl)) (c15 ((hv.mono (kept_from hB0 hB2 (Nat.le_refl _))).wide (Nat.zero_le _) (by omega))) ?_
      rintro _ w5 ⟨rfl, H3⟩
      have hB5 := Bl.step hB2 H3
      have hK6 := Blk.below hK1 H3
      have hK7 := Blk.below N2.blk H3
      have hz3 := H3.size
      rw [hg1]
      refine RW.yl rfl rfl rfl (Yl.not rfl rfl) ?_
      refine RW.yl rfl rfl rfl (Yl.move rfl rfl) ?_
      refine RW.skip rfl rfl rfl ?_
      refine RW.skip rfl rfl rfl ?_
      refine RW.skip rfl rfl rfl ?_
      refine RW.yl rfl rfl rfl (Yl.pickT rfl rfl rfl) ?_
      refine RW.nil ?_
      change CW _ _ _ _ _ _
      refine CW.condT rfl ?_
      refine CW.seq ?_
      refine CW.region ?_
      refine RW.yl rfl rfl rfl (Yl.assign rfl rfl) ?_
      refine RW.nil ?_
      change CW _ _ _ _ _ _
      refine CW.ret ?_
      change FinQ _ _ _ _ _ _
      refine fin1 (.inr rfl) rfl rfl ?_
      exact ⟨_, rfl, ival (by unfold lpairG; (try rw [hg1]); first | rfl | (rw [if_pos (show (true && true) = true from rfl), if_neg (by omega)]) | (rw [if_pos (show (true && true) = true from rfl), if_pos (by omega)])), hB5⟩)

theorem c37 {w : World} {v u : Value} {c d : List Int} (hv : RInts 0 w.heap.size w v c) (hu : RInts 0 w.heap.size w u d) :
    Calls Try.prog 37 #[v, u] w (Ret fun r w' => r = .bool (decide (c = d)) ∧ Below w.heap.size w w') := by
  obtain ⟨p, cc, rfl, hl⟩ := hv.form
  obtain ⟨p2, cd, rfl, hl2⟩ := hu.form
  have hB0 : Below w.heap.size w w := Below.refl _ _
  refine Ev.calls (l := [.slice p c.length cc, .slice p2 d.length cd]) Try.func37 rfl rfl rfl ?_
  change CW _ _ _ _ [(0, .slice p c.length cc), (1, .slice p2 d.length cd)] _
  refine CW.seq ?_
  refine CW.region ?_
  refine RW.yl rfl rfl rfl (Yl.assign rfl rfl) ?_
  refine RW.nil ?_
  change CW _ _ _ _ _ _
  refine CW.seq ?_
  refine CW.seq ?_
  refine CW.region ?_
  refine RW.yl rfl rfl rfl (Yl.move rfl rfl) ?_
  refine RW.yl rfl rfl rfl (Yl.len rfl rfl Try.underlying31) ?_
  refine RW.yl rfl rfl rfl (Yl.move rfl rfl) ?_
  refine RW.yl rfl rfl rfl (Yl.len rfl rfl Try.underlying31) ?_
  refine RW.yl rfl rfl rfl (Yl.neq rfl rfl rfl) ?_
  refine RW.nil ?_
  change CW _ _ _ _ _ _
  refine CW.cond rfl ?_ ?_
  ·
    intro hg1
    have hg2 : decide (((c.length : Nat) : Int) = ((d.length : Nat) : Int)) = false := not_t hg1
    have hq2 := of_decide_eq_false hg2
    first
    | (exfalso; omega)
    | (
      refine CW.seq ?_
      refine CW.region ?_
      refine RW.yl rfl rfl rfl (Yl.assign rfl rfl) ?_
      refine RW.nil ?_
      change CW _ _ _ _ _ _
      refine CW.ret ?_
      change FinQ _ _ _ _ _ _
      refine fin1 (.inr rfl) rfl rfl ?_
      exact ⟨_, rfl, bval (by first | exact (decide_eq_false (ne_len (by omega))).symm | exact (decide_eq_false (ne_at k (by omega))).symm | exact (decide_eq_true (eq_all (by omega) (fun i hi => hi2 i (by omega)))).symm), hB0⟩)
  ·
    intro hg3
    have hg4 : decide (((c.length : Nat) : Int) = ((d.length : Nat) : Int)) = true := not_f hg3
    have hq4 := of_decide_eq_true hg4
    first
    | (exfalso; omega)
    | (
      refine CW.skip ?_
      change CW _ _ _ _ _ _
      refine CW.seq ?_
      refine CW.seq ?_
      refine CW.region ?_
      refine RW.yl rfl rfl rfl (Yl.move rfl rfl) ?_
      refine RW.yl rfl rfl rfl (Yl.len rfl rfl Try.underlying31) ?_
      refine RW.yl rfl rfl rfl (Yl.move rfl rfl) ?_
      refine RW.nil ?_
      change CW _ _ _ _ _ _
      refine CW.block ?_
      refine CW.loop1 (fun (k : Nat) => [(0, .slice p c.length cc), (1, .slice p2 d.length cd), (12, .int .i64 ((c.length : Nat) : Int)), (13, .int .i64 ((k : Nat) : Int))]) (fun k gm W => (gm = c.length - k) ∧ (k ≤ c.length) ∧ (∀ i, i < k → c[i]! = d[i]!) ∧ (Below w.heap.size w W) ∧ (w.heap.size ≤ W.heap.size)) 0 (c.length - 0) ⟨rfl, (by first | assumption | omega | rfl | exact all_next (by assumption) (by omega)), (by first | assumption | omega | rfl | exact all_next (by assumption) (by omega)), hB0, (by omega)⟩ (Sub.cons rfl (Sub.cons rfl (Sub.cons rfl (Sub.cons rfl (Sub.nil))))) ?_
      intro k gm1 w1 hinv
      obtain ⟨hm1, hi1, hi2, hB1, hz1⟩ := hinv
      change CW _ _ _ _ [(0, .slice p c.length cc), (1, .slice p2 d.length cd), (12, .int .i64 ((c.length : Nat) : Int)), (13, .int .i64 ((k : Nat) : Int))] _
      refine CW.seq ?_
      refine CW.region ?_
      refine RW.yl rfl rfl rfl (Yl.lss rfl rfl rfl) ?_
      refine RW.nil ?_
      change CW _ _ _ _ _ _
      refine CW.seq ?_
      refine CW.cond rfl ?_ ?_
      ·
        intro hg5
        have hq6 := of_decide_eq_true hg5
        first
        | (exfalso; omega)
        | (
          refine CW.skip ?_
          change CW _ _ _ _ _ _
          refine CW.seq ?_
          refine CW.block ?_
          refine CW.seq ?_
          refine CW.region ?_
          refine RW.yl rfl rfl rfl (Yl.move rfl rfl) ?_
          refine RW.yl rfl rfl rfl (Yl.assign rfl rfl) ?_
          refine RW.nil ?_
          change CW _ _ _ _ _ _
          refine CW.seq ?_
          refine CW.draw 9 rfl (Kp []) (by kernel_rfl) ?_
          intro w2 H1
          have hB2 := Bl.step hB1 H1
          have hz2 := H1.size
          have hS1 := Kp.refl [] w2
          refine RH.take 0 rfl (by kernel_rfl) rfl rfl rfl hS1 (fun W1 hW1 => Yl.move rfl rfl) ?_
          refine RH.take 1 rfl (by kernel_rfl) rfl rfl rfl hS1 (fun W2 hW2 => Yl.move rfl rfl) ?_
          obtain ⟨bx1, ox1, hp1, hl1, hh1, hc1⟩ := (hv.mono (kept_from hB0 hB2 (Nat.le_refl _))).at k (by omega)
          refine RH.take 2 rfl (by kernel_rfl) rfl rfl rfl hS1 (fun W3 hW3 => Yl.indexAddr1 (k := k) rfl rfl rfl Try.underlying31 sz3 hp1 rfl (by omega)) ?_
          refine RH.take 3 rfl (by kernel_rfl) rfl rfl rfl hS1 (fun W4 hW4 => Yl.load rfl rfl one3 (Kp.cell hW4 hc1 (by simp))) ?_
          refine RH.take 4 rfl (by kernel_rfl) rfl rfl rfl hS1 (fun W5 hW5 => Yl.move rfl rfl) ?_
          refine RH.take 5 rfl (by kernel_rfl) rfl rfl rfl hS1 (fun W6 hW6 => Yl.move rfl rfl) ?_
          obtain ⟨bx2, ox2, hp2, hl2, hh2, hc2⟩ := (hu.mono (kept_from hB0 hB2 (Nat.le_refl _))).at k (by omega)
          refine RH.take 6 rfl (by kernel_rfl) rfl rfl rfl hS1 (fun W7 hW7 => Yl.indexAddr1 (k := k) rfl rfl rfl Try.underlying31 sz3 hp2 rfl (by omega)) ?_
          refine RH.take 7 rfl (by kernel_rfl) rfl rfl rfl hS1 (fun W8 hW8 => Yl.load rfl rfl one3 (Kp.cell hW8 hc2 (by simp))) ?_
          refine RH.take 8 rfl (by kernel_rfl) rfl rfl rfl hS1 (fun W9 hW9 => Yl.neq rfl rfl rfl) ?_
          refine RH.done (by kernel_rfl) ?_
          change CW _ _ _ _ _ _
          refine CW.cond rfl ?_ ?_
          ·
            intro hg6
            have hg7 : decide ((c[k]!) = (d[k]!)) = false := not_t hg6
            have hq8 := of_decide_eq_false hg7
            first
            | (exfalso; omega)
            | (
              refine CW.seq ?_
              refine CW.region ?_
              refine RW.yl rfl rfl rfl (Yl.assign rfl rfl) ?_
              refine RW.nil ?_
              change CW _ _ _ _ _ _
              refine CW.ret ?_
              change FinQ _ _ _ _ _ _
              refine fin1 (.inr rfl) rfl rfl ?_
              exact ⟨_, rfl, bval (by first | exact (decide_eq_false (ne_len (by omega))).symm | exact (decide_eq_false (ne_at k (by omega))).symm | exact (decide_eq_true (eq_all (by omega) (fun i hi => hi2 i (by omega)))).symm), hB2⟩)
          ·
            intro hg8
            have hg9 : decide ((c[k]!) = (d[k]!)) = true := not_f hg8
            have hq10 := of_decide_eq_true hg9
            first
            | (exfalso; omega)
            | (
              refine CW.skip ?_
              change CW _ _ _ _ _ _
              refine CW.region ?_
              refine RW.yl rfl rfl rfl (Yl.addN (a := k) (b := 1) rfl rfl rfl (by omega)) ?_
              refine RW.yl rfl rfl rfl (Yl.move rfl rfl) ?_
              refine RW.nil ?_
              refine ⟨k + 1, c.length - (k + 1), by omega, ⟨rfl, (by first | assumption | omega | rfl | exact all_next (by assumption) (by omega)), (by first | assumption | omega | rfl | exact all_next (by assumption) (by omega)), hB2, (by omega)⟩, Sub.cons rfl (Sub.cons rfl (Sub.cons rfl (Sub.cons rfl (Sub.nil))))⟩))
      ·
        intro hg10
        have hq12 := of_decide_eq_false hg10
        first
        | (exfalso; omega)
        | (
          refine CW.exit ?_
          change CW _ _ _ _ _ _
          refine CW.seq ?_
          refine CW.region ?_
          refine RW.yl rfl rfl rfl (Yl.assign rfl rfl) ?_
          refine RW.nil ?_
          change CW _ _ _ _ _ _
          refine CW.ret ?_
          change FinQ _ _ _ _ _ _
          refine fin1 (.inr rfl) rfl rfl ?_
          exact ⟨_, rfl, bval (by first | exact (decide_eq_false (ne_len (by omega))).symm | exact (decide_eq_false (ne_at k (by omega))).symm | exact (decide_eq_true (eq_all (by omega) (fun i hi => hi2 i (by omega)))).symm), hB1⟩))

theorem c19 {w : World} {v u : Value} {c d : List (List Int)} (hv : RRows 0 w.heap.size w v c) (hu : RRows 0 w.heap.size w u d) :
    Calls Try.prog 19 #[.agg #[v], .agg #[u]] w (Ret fun r w' => r = .bool (decide (c = d)) ∧ Below w.heap.size w w') := by
  obtain ⟨p, cc, rfl, hl⟩ := hv.form
  obtain ⟨p2, cd, rfl, hl2⟩ := hu.form
  have hB0 : Below w.heap.size w w := Below.refl _ _
  refine Ev.calls (l := [.agg #[.slice p c.length cc], .agg #[.slice p2 d.length cd]]) Try.func19 rfl rfl rfl ?_
  change CW _ _ _ _ [(0, .agg #[.slice p c.length cc]), (1, .agg #[.slice p2 d.length cd])] _
  refine CW.seq ?_
  refine CW.region ?_
  refine RW.newP (cs := #[.slice p c.length cc]) (T := 24) rfl rfl rfl (Yv.box (v := .agg #[.slice p c.length cc]) rfl rfl) ?_
  intro b1 w1 N1
  have lo_b1 : w.heap.size ≤ b1 := by have := hB0.size; have := N1.num; omega
  have hn_b1 := N1.num
  have hs_b1 := N1.size
  have hB1 := Bl.step hB0 N1.below
  refine RW.newP (cs := #[.slice p2 d.length cd]) (T := 24) rfl rfl rfl (Yv.box (v := .agg #[.slice p2 d.length cd]) rfl rfl) ?_
  intro b2 w2 N2
  have ne1 := New.ne N2 N1.blk
  have lo_b2 : w.heap.size ≤ b2 := by have := hB1.size; have := N2.num; omega
  have hn_b2 := N2.num
  have hs_b2 := N2.size
  have hB2 := Bl.step hB1 N2.below
  have hK1 := Blk.below N1.blk N2.below
  refine RW.yl rfl rfl rfl (Yl.assign rfl rfl) ?_
  refine RW.nil ?_
  change CW _ _ _ _ _ _
  refine CW.seq ?_
  refine CW.seq ?_
  refine CW.region ?_
  refine RW.yl rfl rfl rfl (Yl.fieldAddr rfl rfl Try.underlying24 rfl sz22) ?_
  refine RW.yl rfl rfl rfl (Yl.load rfl rfl one22 (Blk.cell hK1 rfl)) ?_
  refine RW.yl rfl rfl rfl (Yl.len rfl rfl Try.underlying22) ?_
  refine RW.yl rfl rfl rfl (Yl.fieldAddr rfl rfl Try.underlying24 rfl sz22) ?_
  refine RW.yl rfl rfl rfl (Yl.load rfl rfl one22 (Blk.cell N2.blk rfl)) ?_
  refine RW.yl rfl rfl rfl (Yl.len rfl rfl Try.underlying22) ?_
  refine RW.yl rfl rfl rfl (Yl.neq rfl rfl rfl) ?_
  refine RW.nil ?_
  change CW _ _ _ _ _ _
  refine CW.cond rfl ?_ ?_
  ·
    intro hg1
    have hg2 : decide (((c.length : Nat) : Int) = ((d.length : Nat) : Int)) = false := not_t hg1
    have hq2 := of_decide_eq_false hg2
    first
    | (exfalso; omega)
    | (
      refine CW.seq ?_
      refine CW.region ?_
      refine RW.yl rfl rfl rfl (Yl.assign rfl rfl) ?_
      refine RW.nil ?_
      change CW _ _ _ _ _ _
      refine CW.ret ?_
      change FinQ _ _ _ _ _ _
      refine fin1 (.inr rfl) rfl rfl ?_
      exact ⟨_, rfl, bval (by first | exact (decide_eq_false (ne_len (by omega))).symm | exact (decide_eq_false (ne_at k (by assumption))).symm | exact (decide_eq_true (eq_all (by omega) (fun i hi => hi2 i (by omega)))).symm), hB2⟩)
  ·
    intro hg3
    have hg4 : decide (((c.length : Nat) : Int) = ((d.length : Nat) : Int)) = true := not_f hg3
    have hq4 := of_decide_eq_true hg4
    first
    | (exfalso; omega)
    | (
      refine CW.skip ?_
      change CW _ _ _ _ _ _
      refine CW.seq ?_
      refine CW.seq ?_
      refine CW.region ?_
      refine RW.yl rfl rfl rfl (Yl.fieldAddr rfl rfl Try.underlying24 rfl sz22) ?_
      refine RW.yl rfl rfl rfl (Yl.load rfl rfl one22 (Blk.cell hK1 rfl)) ?_
      refine RW.yl rfl rfl rfl (Yl.len rfl rfl Try.underlying22) ?_
      refine RW.yl rfl rfl rfl (Yl.move rfl rfl) ?_
      refine RW.nil ?_
      change CW _ _ _ _ _ _
      refine CW.block ?_
      refine CW.loop1 (fun (k : Nat) => [(2, .pointer (some ⟨b1, 0, none⟩)), (3, .pointer (some ⟨b2, 0, none⟩)), (15, .int .i64 ((c.length : Nat) : Int)), (16, .int .i64 ((k : Nat) : Int))]) (fun k gm W => (gm = c.length - k) ∧ (k ≤ c.length) ∧ (∀ i, i < k → c[i]! = d[i]!) ∧ (Below w.heap.size w W) ∧ (Blk W b1 #[.slice p c.length cc] 24) ∧ (Blk W b2 #[.slice p2 d.length cd] 24) ∧ (w2.heap.size ≤ W.heap.size)) 0 (c.length - 0) ⟨rfl, (by first | assumption | omega | rfl | exact all_next (by assumption) (by assumption)), (by first | assumption | omega | rfl | exact all_next (by assumption) (by assumption)), hB2, hK1, N2.blk, (by omega)⟩ (Sub.cons rfl (Sub.cons rfl (Sub.cons rfl (Sub.cons rfl (Sub.nil))))) ?_
      intro k gm1 w3 hinv
      obtain ⟨hm1, hi1, hi2, hB3, hK2, hK3, hz1⟩ := hinv
      change CW _ _ _ _ [(2, .pointer (some ⟨b1, 0, none⟩)), (3, .pointer (some ⟨b2, 0, none⟩)), (15, .int .i64 ((c.length : Nat) : Int)), (16, .int .i64 ((k : Nat) : Int))] _
      refine CW.seq ?_
      refine CW.region ?_
      refine RW.yl rfl rfl rfl (Yl.lss rfl rfl rfl) ?_
      refine RW.nil ?_
      change CW _ _ _ _ _ _
      refine CW.seq ?_
      refine CW.cond rfl ?_ ?_
      ·
        intro hg5
        have hq6 := of_decide_eq_true hg5
        first
        | (exfalso; omega)
        | (
          refine CW.skip ?_
          change CW _ _ _ _ _ _
          refine CW.seq ?_
          refine CW.block ?_
          refine CW.seq ?_
          refine CW.region ?_
          refine RW.yl rfl rfl rfl (Yl.move rfl rfl) ?_
          refine RW.yl rfl rfl rfl (Yl.assign rfl rfl) ?_
          refine RW.nil ?_
          change CW _ _ _ _ _ _
          refine CW.seq ?_
          refine CW.draw 12 rfl (Kp []) (by kernel_rfl) ?_
          intro w4 H1
          have hB4 := Bl.step hB3 H1
          have hK4 := Blk.below hK2 H1
          have hK5 := Blk.below hK3 H1
          have hz2 := H1.size
          have hS1 := Kp.refl [] w4
          refine RH.take 0 rfl (by kernel_rfl) rfl rfl rfl hS1 (fun W1 hW1 => Yl.fieldAddr rfl rfl Try.underlying24 rfl sz22) ?_
          refine RH.take 1 rfl (by kernel_rfl) rfl rfl rfl hS1 (fun W2 hW2 => Yl.load rfl rfl one22 (Blk.cell (Kp.blk hW2 hK4 (by simp)) rfl)) ?_
          refine RH.take 2 rfl (by kernel_rfl) rfl rfl rfl hS1 (fun W3 hW3 => Yl.move rfl rfl) ?_
          obtain ⟨bx1, ox1, px1, cx1, hp1, hl1, hh1, hc1, hx1, hn1⟩ := (hv.mono (kept_from hB0 hB4 (Nat.le_refl _))).at k (by omega)
          refine RH.take 3 rfl (by kernel_rfl) rfl rfl rfl hS1 (fun W4 hW4 => Yl.indexAddr1 (k := k) rfl rfl rfl Try.underlying22 sz31 hp1 rfl (by omega)) ?_
          refine RH.take 4 rfl (by kernel_rfl) rfl rfl rfl hS1 (fun W5 hW5 => Yl.load rfl rfl one31 (Kp.cell hW5 hc1 (by simp))) ?_
          refine RH.take 5 rfl (by kernel_rfl) rfl rfl rfl hS1 (fun W6 hW6 => Yl.fieldAddr rfl rfl Try.underlying24 rfl sz22) ?_
          refine RH.take 6 rfl (by kernel_rfl) rfl rfl rfl hS1 (fun W7 hW7 => Yl.load rfl rfl one22 (Blk.cell (Kp.blk hW7 hK5 (by simp)) rfl)) ?_
          refine RH.take 7 rfl (by kernel_rfl) rfl rfl rfl hS1 (fun W8 hW8 => Yl.move rfl rfl) ?_
          obtain ⟨bx2, ox2, px2, cx2, hp2, hl2, hh2, hc2, hx2, hn2⟩ := (hu.mono (kept_from hB0 hB4 (Nat.le_refl _))).at k (by omega)
          refine RH.take 8 rfl (by kernel_rfl) rfl rfl rfl hS1 (fun W9 hW9 => Yl.indexAddr1 (k := k) rfl rfl rfl Try.underlying22 sz31 hp2 rfl (by omega)) ?_
          refine RH.take 9 rfl (by kernel_rfl) rfl rfl rfl hS1 (fun W10 hW10 => Yl.load rfl rfl one31 (Kp.cell hW10 hc2 (by simp))) ?_
          refine RH.one 10 (by kernel_rfl) ?_
          refine RO.fn rfl rfl rfl rfl (Yc.func #[.slice px1 ((c[k]!).length) cx1, .slice px2 ((d[k]!).length) cx2] rfl ok37 (args2 rfl rfl)) (c37 (hx1.wide (Nat.zero_le _) (by omega)) (hx2.wide (Nat.zero_le _) (by omega))) ?_
          rintro _ w5 ⟨rfl, H2⟩
          have hS2 := Kp.step hS1 H2
          have hB5 := Bl.step hB4 H2
          have hK6 := Blk.below hK4 H2
          have hK7 := Blk.below hK5 H2
          have hz3 := H2.size
          refine ⟨hS2, ?_⟩
          refine RH.take 11 rfl (by kernel_rfl) rfl rfl rfl hS2 (fun W12 hW12 => Yl.not rfl rfl) ?_
          refine RH.done (by kernel_rfl) ?_
          change CW _ _ _ _ _ _
          refine CW.cond rfl ?_ ?_
          ·
            intro hg6
            have hg7 : decide ((c[k]!) = (d[k]!)) = false := not_t hg6
            have hq8 := of_decide_eq_false hg7
            first
            | (exfalso; omega)
            | (
              refine CW.seq ?_
              refine CW.region ?_
              refine RW.yl rfl rfl rfl (Yl.assign rfl rfl) ?_
              refine RW.nil ?_
              change CW _ _ _ _ _ _
              refine CW.ret ?_
              change FinQ _ _ _ _ _ _
              refine fin1 (.inr rfl) rfl rfl ?_
              exact ⟨_, rfl, bval (by first | exact (decide_eq_false (ne_len (by omega))).symm | exact (decide_eq_false (ne_at k (by assumption))).symm | exact (decide_eq_true (eq_all (by omega) (fun i hi => hi2 i (by omega)))).symm), hB5⟩)
          ·
            intro hg8
            have hg9 : decide ((c[k]!) = (d[k]!)) = true := not_f hg8
            have hq10 := of_decide_eq_true hg9
            first
            | (exfalso; omega)
            | (
              refine CW.skip ?_
              change CW _ _ _ _ _ _
              refine CW.region ?_
              refine RW.yl rfl rfl rfl (Yl.addN (a := k) (b := 1) rfl rfl rfl (by omega)) ?_
              refine RW.yl rfl rfl rfl (Yl.move rfl rfl) ?_
              refine RW.nil ?_
              refine ⟨k + 1, c.length - (k + 1), by omega, ⟨rfl, (by first | assumption | omega | rfl | exact all_next (by assumption) (by assumption)), (by first | assumption | omega | rfl | exact all_next (by assumption) (by assumption)), hB5, hK6, hK7, (by omega)⟩, Sub.cons rfl (Sub.cons rfl (Sub.cons rfl (Sub.cons rfl (Sub.nil))))⟩))
      ·
        intro hg10
        have hq12 := of_decide_eq_false hg10
        first
        | (exfalso; omega)
        | (
          refine CW.exit ?_
          change CW _ _ _ _ _ _
          refine CW.seq ?_
          refine CW.region ?_
          refine RW.yl rfl rfl rfl (Yl.assign rfl rfl) ?_
          refine RW.nil ?_
          change CW _ _ _ _ _ _
          refine CW.ret ?_
          change FinQ _ _ _ _ _ _
          refine fin1 (.inr rfl) rfl rfl ?_
          exact ⟨_, rfl, bval (by first | exact (decide_eq_false (ne_len (by omega))).symm | exact (decide_eq_false (ne_at k (by assumption))).symm | exact (decide_eq_true (eq_all (by omega) (fun i hi => hi2 i (by omega)))).symm), hB3⟩))

theorem c38 {w : World} {v : Value} {l : List Int} (hv : RInts 0 w.heap.size w v l) (h0 : 0 < l.length) :
    Calls Try.prog 38 #[v] w (Ret fun r w' => r = .int .i64 (maxL l l.length) ∧ Below w.heap.size w w') := by
  obtain ⟨p, c, rfl, hl⟩ := hv.form
  have hB0 : Below w.heap.size w w := Below.refl _ _
  refine Ev.calls (l := [.slice p l.length c]) Try.func38 rfl rfl rfl ?_
  change CW _ _ _ _ [(0, .slice p l.length c)] _
  refine CW.seq ?_
  refine CW.region ?_
  refine RW.yl rfl rfl rfl (Yl.assign rfl rfl) ?_
  refine RW.nil ?_
  change CW _ _ _ _ _ _
  refine CW.seq ?_
  refine CW.seq ?_
  refine CW.region ?_
  refine RW.yl rfl rfl rfl (Yl.move rfl rfl) ?_
  refine RW.yl rfl rfl rfl (Yl.len rfl rfl Try.underlying31) ?_
  refine RW.yl rfl rfl rfl (Yl.lss rfl rfl rfl) ?_
  refine RW.nil ?_
  change CW _ _ _ _ _ _
  refine CW.cond rfl ?_ ?_
  ·
    intro hg1
    have hq2 := of_decide_eq_true hg1
    exfalso; omega
  ·
    intro hg2
    have hq4 := of_decide_eq_false hg2
    first
    | (exfalso; omega)
    | (
      refine CW.skip ?_
      change CW _ _ _ _ _ _
      refine CW.seq ?_
      refine CW.region ?_
      refine RW.yl rfl rfl rfl (Yl.move rfl rfl) ?_
      obtain ⟨bx1, ox1, hp1, hl1, hh1, hc1⟩ := hv.at 0 (by omega)
      refine RW.yl rfl rfl rfl (Yl.indexAddr1 (k := 0) rfl rfl rfl Try.underlying31 sz3 hp1 rfl (by omega)) ?_
      refine RW.yl rfl rfl rfl (Yl.load rfl rfl one3 hc1) ?_
      refine RW.yl rfl rfl rfl (Yl.assign rfl rfl) ?_
      refine RW.nil ?_
      change CW _ _ _ _ _ _
      refine CW.seq ?_
      refine CW.seq ?_
      refine CW.region ?_
      refine RW.yl rfl rfl rfl (Yl.assign rfl rfl) ?_
      refine RW.nil ?_
      change CW _ _ _ _ _ _
      refine CW.block ?_
      refine CW.loop2 (fun (k : Nat) (s : Int) => [(0, .slice p l.length c), (2, .int .i64 0), (3, .int .i64 s), (4, .int .i64 ((k : Nat) : Int))]) (fun k s gm W => (gm = l.length - k) ∧ (k ≤ l.length) ∧ (s = maxL l k) ∧ (Below w.heap.size w W) ∧ (w.heap.size ≤ W.heap.size)) 1 (l[0]!) (l.length - 1) ⟨rfl, (by first | assumption | omega | rfl | (first | exact maxL_one l | (subst hi2; rfl))), (by first | assumption | omega | rfl | (first | exact maxL_one l | (subst hi2; rfl))), hB0, (by omega)⟩ (Sub.cons rfl (Sub.cons rfl (Sub.cons rfl (Sub.cons rfl (Sub.nil))))) ?_
      intro k s gm1 w2 hinv
      obtain ⟨hm1, hi1, hi2, hB1, hz1⟩ := hinv
      change CW _ _ _ _ [(0, .slice p l.length c), (2, .int .i64 0), (3, .int .i64 s), (4, .int .i64 ((k : Nat) : Int))] _
      refine CW.seq ?_
      refine CW.seq ?_
      refine CW.region ?_
      refine RW.yl rfl rfl rfl (Yl.move rfl rfl) ?_
      refine RW.yl rfl rfl rfl (Yl.move rfl rfl) ?_
      refine RW.yl rfl rfl rfl (Yl.len rfl rfl Try.underlying31) ?_
      refine RW.yl rfl rfl rfl (Yl.lss rfl rfl rfl) ?_
      refine RW.nil ?_
      change CW _ _ _ _ _ _
      refine CW.cond rfl ?_ ?_
      ·
        intro hg3
        have hq6 := of_decide_eq_true hg3
        first
        | (exfalso; omega)
        | (
          refine CW.skip ?_
          change CW _ _ _ _ _ _
          refine CW.seq ?_
          refine CW.block ?_
          refine CW.region ?_
          refine RW.yl rfl rfl rfl (Yl.move rfl rfl) ?_
          refine RW.yl rfl rfl rfl (Yl.move rfl rfl) ?_
          refine RW.yl rfl rfl rfl (Yl.move rfl rfl) ?_
          obtain ⟨bx2, ox2, hp2, hl2, hh2, hc2⟩ := (hv.mono (kept_from hB0 hB1 (Nat.le_refl _))).at k (by omega)
          refine RW.yl rfl rfl rfl (Yl.indexAddr1 (k := k) rfl rfl rfl Try.underlying31 sz3 hp2 rfl (by omega)) ?_
          refine RW.yl rfl rfl rfl (Yl.load rfl rfl one3 hc2) ?_
          refine RW.yl rfl rfl rfl (Yl.max rfl rfl rfl) ?_
          refine RW.yl rfl rfl rfl (Yl.assign rfl rfl) ?_
          refine RW.nil ?_
          change CW _ _ _ _ _ _
          refine CW.region ?_
          refine RW.yl rfl rfl rfl (Yl.move rfl rfl) ?_
          refine RW.yl rfl rfl rfl (Yl.addN (a := k) (b := 1) rfl rfl rfl (by omega)) ?_
          refine RW.yl rfl rfl rfl (Yl.assign rfl rfl) ?_
          refine RW.nil ?_
          refine ⟨(k + 1, (if s < (l[k]!) then (l[k]!) else s)), l.length - (k + 1), by omega, ⟨rfl, (by first | assumption | omega | rfl | (first | exact maxL_one l | (subst hi2; rfl))), (by first | assumption | omega | rfl | (first | exact maxL_one l | (subst hi2; rfl))), hB1, (by omega)⟩, Sub.cons rfl (Sub.cons rfl (Sub.cons rfl (Sub.cons rfl (Sub.nil))))⟩)
      ·
        intro hg4
        have hq8 := of_decide_eq_false hg4
        first
        | (exfalso; omega)
        | (
          refine CW.exit ?_
          change CW _ _ _ _ _ _
          refine CW.seq ?_
          refine CW.region ?_
          refine RW.yl rfl rfl rfl (Yl.move rfl rfl) ?_
          refine RW.yl rfl rfl rfl (Yl.assign rfl rfl) ?_
          refine RW.nil ?_
          change CW _ _ _ _ _ _
          refine CW.ret ?_
          change FinQ _ _ _ _ _ _
          refine fin1 (.inr rfl) rfl rfl ?_
          exact ⟨_, rfl, ival (by rw [hi2, show k = l.length by omega]), hB1⟩))

theorem c24 {w : World} {v : Value} {m : List (List Int)} (hv : RRows 0 w.heap.size w v m) {R C : Nat} {T : Int} (hm : Chan m R C T) :
    Calls Try.prog 24 #[.agg #[v]] w (Ret fun r w' => r = .int .i64 (worthM m) ∧ Below w.heap.size w w') := by
  obtain ⟨p, c, rfl, hl⟩ := hv.form
  have hR := hm.rows
  have hR1 := hm.r1
  have hW0 := hm.width 0 (by omega)
  have hC2 := hm.c2
  have hB0 : Below w.heap.size w w := Below.refl _ _
  refine Ev.calls (l := [.agg #[.slice p m.length c]]) Try.func24 rfl rfl rfl ?_
  change CW _ _ _ _ [(0, .agg #[.slice p m.length c])] _
  refine CW.seq ?_
  refine CW.region ?_
  refine RW.newP (cs := #[.slice p m.length c]) (T := 24) rfl rfl rfl (Yv.box (v := .agg #[.slice p m.length c]) rfl rfl) ?_
  intro b1 w1 N1
  have lo_b1 : w.heap.size ≤ b1 := by have := hB0.size; have := N1.num; omega
  have hn_b1 := N1.num
  have hs_b1 := N1.size
  have hB1 := Bl.step hB0 N1.below
  refine RW.yl rfl rfl rfl (Yl.assign rfl rfl) ?_
  refine RW.nil ?_
  change CW _ _ _ _ _ _
  refine CW.seq ?_
  refine CW.region ?_
  refine RW.yl rfl rfl rfl (Yl.assign rfl rfl) ?_
  refine RW.nil ?_
  change CW _ _ _ _ _ _
  refine CW.seq ?_
  refine CW.seq ?_
  refine CW.region ?_
  refine RW.yl rfl rfl rfl (Yl.fieldAddr rfl rfl Try.underlying24 rfl sz22) ?_
  refine RW.yl rfl rfl rfl (Yl.load rfl rfl one22 (Blk.cell N1.blk rfl)) ?_
  obtain ⟨bx1, ox1, px1, cx1, hp1, hl1, hh1, hc1, hx1, hn1⟩ := (hv.mono (kept_from hB0 hB1 (Nat.le_refl _))).at 0 (by first | omega | (have := hW (by omega); omega))
  refine RW.yl rfl rfl rfl (Yl.indexAddr1 (k := 0) rfl rfl rfl Try.underlying22 sz31 hp1 rfl (by first | omega | (have := hW (by omega); omega))) ?_
  refine RW.yl rfl rfl rfl (Yl.load rfl rfl one31 hc1) ?_
  refine RW.yl rfl rfl rfl (Yl.len rfl rfl Try.underlying31) ?_
  refine RW.yl rfl rfl rfl (Yl.move rfl rfl) ?_
  refine RW.nil ?_
  change CW _ _ _ _ _ _
  refine CW.block ?_
  refine CW.loop2 (fun (y : Nat) (n : Int) => [(1, .pointer (some ⟨b1, 0, none⟩)), (2, .int .i64 0), (3, .int .i64 n), (12, .int .i64 (((m[0]!).length : Nat) : Int)), (13, .int .i64 ((y : Nat) : Int))]) (fun y n gm W => (gm = (m[0]!).length - y) ∧ (y ≤ (m[0]!).length) ∧ (n = sumTo y (fun y => colMax m y m.length)) ∧ (0 ≤ n) ∧ (n ≤ 1048576 * y) ∧ (Below w.heap.size w W) ∧ (Blk W b1 #[.slice p m.length c] 24) ∧ (w1.heap.size ≤ W.heap.size)) 0 0 ((m[0]!).length - 0) ⟨rfl, (by first | assumption | omega | rfl | (first | (rw [hi2, hi6, show k = m.length by omega]; rfl) | omega)), (by first | assumption | omega | rfl | (first | (rw [hi2, hi6, show k = m.length by omega]; rfl) | omega)), (by first | assumption | omega | rfl | (first | (rw [hi2, hi6, show k = m.length by omega]; rfl) | omega)), (by first | assumption | omega | rfl | (first | (rw [hi2, hi6, show k = m.length by omega]; rfl) | omega)), hB1, N1.blk, (by omega)⟩ (Sub.cons rfl (Sub.cons rfl (Sub.cons rfl (Sub.cons rfl (Sub.cons rfl (Sub.nil)))))) ?_
  intro y n gm1 w2 hinv
  obtain ⟨hm1, hi1, hi2, hi3, hi4, hB2, hK1, hz1⟩ := hinv
  change CW _ _ _ _ [(1, .pointer (some ⟨b1, 0, none⟩)), (2, .int .i64 0), (3, .int .i64 n), (12, .int .i64 (((m[0]!).length : Nat) : Int)), (13, .int .i64 ((y : Nat) : Int))] _
  refine CW.seq ?_
  refine CW.region ?_
  refine RW.yl rfl rfl rfl (Yl.lss rfl rfl rfl) ?_
  refine RW.nil ?_
  change CW _ _ _ _ _ _
  refine CW.seq ?_
  refine CW.cond rfl ?_ ?_
  ·
    intro hg1
    have hq2 := of_decide_eq_true hg1
    first
    | (exfalso; omega)
    | (
      refine CW.skip ?_
      change CW _ _ _ _ _ _
      refine CW.seq ?_
      refine CW.block ?_
      refine CW.seq ?_
      refine CW.region ?_
      refine RW.yl rfl rfl rfl (Yl.move rfl rfl) ?_
      refine RW.yl rfl rfl rfl (Yl.assign rfl rfl) ?_
      refine RW.nil ?_
      change CW _ _ _ _ _ _
      refine CW.seq ?_
      refine CW.region ?_
      refine RW.yl rfl rfl rfl (Yl.assign rfl rfl) ?_
      refine RW.nil ?_
      change CW _ _ _ _ _ _
      refine CW.seq ?_
      refine CW.seq ?_
      refine CW.region ?_
      refine RW.yl rfl rfl rfl (Yl.fieldAddr rfl rfl Try.underlying24 rfl sz22) ?_
      refine RW.yl rfl rfl rfl (Yl.load rfl rfl one22 (Blk.cell hK1 rfl)) ?_
      refine RW.yl rfl rfl rfl (Yl.len rfl rfl Try.underlying22) ?_
      refine RW.yl rfl rfl rfl (Yl.move rfl rfl) ?_
      refine RW.nil ?_
      change CW _ _ _ _ _ _
      refine CW.block ?_
      refine CW.loop2 (fun (k : Nat) (b : Int) => [(1, .pointer (some ⟨b1, 0, none⟩)), (2, .int .i64 0), (3, .int .i64 n), (4, .int .i64 ((y : Nat) : Int)), (5, .int .i64 b), (12, .int .i64 (((m[0]!).length : Nat) : Int)), (13, .int .i64 ((y : Nat) : Int)), (14, .bool (decide (((y : Nat) : Int) < (((m[0]!).length : Nat) : Int)))), (15, .int .i64 ((y : Nat) : Int)), (16, .pointer (some ⟨b1, 0, none⟩)), (17, .slice p m.length c), (18, .int .i64 ((m.length : Nat) : Int)), (19, .int .i64 ((k : Nat) : Int))]) (fun k b gm W => (gm = m.length - k) ∧ (k ≤ m.length) ∧ (b = colMax m y k) ∧ (0 ≤ b) ∧ (b ≤ 1048576) ∧ (Below w.heap.size w W) ∧ (Blk W b1 #[.slice p m.length c] 24) ∧ (w2.heap.size ≤ W.heap.size)) 0 0 (m.length - 0) ⟨rfl, (by first | assumption | omega | rfl | (first | (subst hi6; rfl) | (have := hE (by omega); split <;> omega))), (by first | assumption | omega | rfl | (first | (subst hi6; rfl) | (have := hE (by omega); split <;> omega))), (by first | assumption | omega | rfl | (first | (subst hi6; rfl) | (have := hE (by omega); split <;> omega))), (by first | assumption | omega | rfl | (first | (subst hi6; rfl) | (have := hE (by omega); split <;> omega))), hB2, hK1, (by omega)⟩ (Sub.cons rfl (Sub.cons rfl (Sub.cons rfl (Sub.cons rfl (Sub.cons rfl (Sub.cons rfl (Sub.cons rfl (Sub.cons rfl (Sub.cons rfl (Sub.cons rfl (Sub.cons rfl (Sub.cons rfl (Sub.cons rfl (Sub.nil)))))))))))))) ?_
      intro k b gm2 w3 hinv
      obtain ⟨hm2, hi5, hi6, hi7, hi8, hB3, hK2, hz2⟩ := hinv
      change CW _ _ _ _ [(1, .pointer (some ⟨b1, 0, none⟩)), (2, .int .i64 0), (3, .int .i64 n), (4, .int .i64 ((y : Nat) : Int)), (5, .int .i64 b), (12, .int .i64 (((m[0]!).length : Nat) : Int)), (13, .int .i64 ((y : Nat) : Int)), (14, .bool (decide (((y : Nat) : Int) < (((m[0]!).length : Nat) : Int)))), (15, .int .i64 ((y : Nat) : Int)), (16, .pointer (some ⟨b1, 0, none⟩)), (17, .slice p m.length c), (18, .int .i64 ((m.length : Nat) : Int)), (19, .int .i64 ((k : Nat) : Int))] _
      have hW : k < m.length → (m[k]!).length = C := fun h => hm.width k (by omega)
      have hE : k < m.length → 0 ≤ (m[k]!)[y]! ∧ (m[k]!)[y]! ≤ 1048576 := fun h => hm.entry k y (by omega) (by omega)
      refine CW.seq ?_
      refine CW.region ?_
      refine RW.yl rfl rfl rfl (Yl.lss rfl rfl rfl) ?_
      refine RW.nil ?_
      change CW _ _ _ _ _ _
      refine CW.seq ?_
      refine CW.cond rfl ?_ ?_
      ·
        intro hg2
        have hq4 := of_decide_eq_true hg2
        first
        | (exfalso; omega)
        | (
          refine CW.skip ?_
          change CW _ _ _ _ _ _
          refine CW.seq ?_
          refine CW.block ?_
          refine CW.seq ?_
          refine CW.region ?_
          obtain ⟨bx2, ox2, px2, cx2, hp2, hl2, hh2, hc2, hx2, hn2⟩ := (hv.mono (kept_from hB0 hB3 (Nat.le_refl _))).at k (by first | omega | (have := hW (by omega); omega))
          refine RW.yl rfl rfl rfl (Yl.indexAddr1 (k := k) rfl rfl rfl Try.underlying22 sz31 hp2 rfl (by first | omega | (have := hW (by omega); omega))) ?_
          refine RW.yl rfl rfl rfl (Yl.load rfl rfl one31 hc2) ?_
          refine RW.yl rfl rfl rfl (Yl.assign rfl rfl) ?_
          refine RW.nil ?_
          change CW _ _ _ _ _ _
          refine CW.region ?_
          refine RW.yl rfl rfl rfl (Yl.move rfl rfl) ?_
          refine RW.yl rfl rfl rfl (Yl.move rfl rfl) ?_
          refine RW.yl rfl rfl rfl (Yl.move rfl rfl) ?_
          obtain ⟨bx3, ox3, hp3, hl3, hh3, hc3⟩ := hx2.at y (by first | omega | (have := hW (by omega); omega))
          refine RW.yl rfl rfl rfl (Yl.indexAddr1 (k := y) rfl rfl rfl Try.underlying31 sz3 hp3 rfl (by first | omega | (have := hW (by omega); omega))) ?_
          refine RW.yl rfl rfl rfl (Yl.load rfl rfl one3 hc3) ?_
          refine RW.yl rfl rfl rfl (Yl.max rfl rfl rfl) ?_
          refine RW.yl rfl rfl rfl (Yl.assign rfl rfl) ?_
          refine RW.nil ?_
          change CW _ _ _ _ _ _
          refine CW.region ?_
          refine RW.yl rfl rfl rfl (Yl.addN (a := k) (b := 1) rfl rfl rfl (by omega)) ?_
          refine RW.yl rfl rfl rfl (Yl.move rfl rfl) ?_
          refine RW.nil ?_
          refine ⟨(k + 1, (if b < ((m[k]!)[y]!) then ((m[k]!)[y]!) else b)), m.length - (k + 1), by omega, ⟨rfl, (by first | assumption | omega | rfl | (first | (subst hi6; rfl) | (have := hE (by omega); split <;> omega))), (by first | assumption | omega | rfl | (first | (subst hi6; rfl) | (have := hE (by omega); split <;> omega))), (by first | assumption | omega | rfl | (first | (subst hi6; rfl) | (have := hE (by omega); split <;> omega))), (by first | assumption | omega | rfl | (first | (subst hi6; rfl) | (have := hE (by omega); split <;> omega))), hB3, hK2, (by omega)⟩, Sub.cons rfl (Sub.cons rfl (Sub.cons rfl (Sub.cons rfl (Sub.cons rfl (Sub.cons rfl (Sub.cons rfl (Sub.cons rfl (Sub.cons rfl (Sub.cons rfl (Sub.cons rfl (Sub.cons rfl (Sub.cons rfl (Sub.nil)))))))))))))⟩)
      ·
        intro hg3
        have hq6 := of_decide_eq_false hg3
        first
        | (exfalso; omega)
        | (
          refine CW.exit ?_
          change CW _ _ _ _ _ _
          refine CW.region ?_
          refine RW.yl rfl rfl rfl (Yl.move rfl rfl) ?_
          refine RW.yl rfl rfl rfl (Yl.move rfl rfl) ?_
          refine RW.yl rfl rfl rfl (Yl.add (m := n) (n := b) rfl rfl rfl (by omega)) ?_
          refine RW.yl rfl rfl rfl (Yl.assign rfl rfl) ?_
          refine RW.nil ?_
          change CW _ _ _ _ _ _
          refine CW.region ?_
          refine RW.yl rfl rfl rfl (Yl.addN (a := y) (b := 1) rfl rfl rfl (by omega)) ?_
          refine RW.yl rfl rfl rfl (Yl.move rfl rfl) ?_
          refine RW.nil ?_
          refine ⟨(y + 1, n + b), (m[0]!).length - (y + 1), by omega, ⟨rfl, (by first | assumption | omega | rfl | (first | (rw [hi2, hi6, show k = m.length by omega]; rfl) | omega)), (by first | assumption | omega | rfl | (first | (rw [hi2, hi6, show k = m.length by omega]; rfl) | omega)), (by first | assumption | omega | rfl | (first | (rw [hi2, hi6, show k = m.length by omega]; rfl) | omega)), (by first | assumption | omega | rfl | (first | (rw [hi2, hi6, show k = m.length by omega]; rfl) | omega)), hB3, hK2, (by omega)⟩, Sub.cons rfl (Sub.cons rfl (Sub.cons rfl (Sub.cons rfl (Sub.cons rfl (Sub.nil)))))⟩))
  ·
    intro hg4
    have hq8 := of_decide_eq_false hg4
    first
    | (exfalso; omega)
    | (
      refine CW.exit ?_
      change CW _ _ _ _ _ _
      refine CW.seq ?_
      refine CW.region ?_
      refine RW.yl rfl rfl rfl (Yl.move rfl rfl) ?_
      refine RW.yl rfl rfl rfl (Yl.assign rfl rfl) ?_
      refine RW.nil ?_
      change CW _ _ _ _ _ _
      refine CW.ret ?_
      change FinQ _ _ _ _ _ _
      refine fin1 (.inr rfl) rfl rfl ?_
      exact ⟨_, rfl, ival (by rw [hi2, show y = (m[0]!).length by omega]; rfl), hB2⟩)

end Go.Proofs.Ytodeffidnipelaa
