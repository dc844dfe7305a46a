/- ComposeVisible. -/
import Derived.Test.YtodeffidnipelaaM3
namespace Go.Proofs.Ytodeffidnipelaa
open Go.RowKit Go.Ev

theorem ok24 : fnOk Try.prog 24 := ⟨_, Try.func24, by kernel_rfl, rfl⟩
theorem ok26 : fnOk Try.prog 26 := ⟨_, Try.func26, by kernel_rfl, rfl⟩
theorem ok33 : fnOk Try.prog 33 := ⟨_, Try.func33, by kernel_rfl, rfl⟩
set_option maxHeartbeats 4000000 in
theorem c10 {w : World} {v u : Value} {c d : List (List Int)} (hv : RRows 0 w.heap.size w v c) (hu : RRows 0 w.heap.size w u d) {i j : Int} :
    Calls Try.prog 10 #[.agg #[v], .agg #[u], .agg #[.int .i64 i, .int .i64 j]] w (Ret fun r w' => r = .bool true ∧ Below w.heap.size w w') := by
  obtain ⟨p, cc, rfl, hl⟩ := hv.form
  obtain ⟨p2, cd, rfl, hl2⟩ := hu.form
  have hB0 : Below w.heap.size w w := Below.refl _ _
  refine Ev.calls (l := [.agg #[.slice p c.length cc], .agg #[.slice p2 d.length cd], .agg #[.int .i64 i, .int .i64 j]]) Try.func10 rfl rfl rfl ?_
  change CW _ _ _ _ [(0, .agg #[.slice p c.length cc]), (1, .agg #[.slice p2 d.length cd]), (2, .agg #[.int .i64 i, .int .i64 j])] _
  refine CW.seq ?_
  refine CW.region ?_
  refine RW.newP (cs := #[.slice p c.length cc]) (T := 24) rfl rfl rfl (Yv.box (v := .agg #[.slice p c.length cc]) rfl rfl) ?_
  intro b1 w1 N1
  have lo_b1 : w.heap.size ≤ b1 := by have := hB0.size; have := N1.num; omega
  have hn_b1 := N1.num
  have hs_b1 := N1.size
  have hB1 := Bl.step hB0 N1.below
  refine RW.newP (cs := #[.slice p2 d.length cd]) (T := 24) rfl rfl rfl (Yv.box (v := .agg #[.slice p2 d.length cd]) rfl rfl) ?_
  intro b2 w2 N2
  have ne1 := New.ne N2 N1.blk
  have lo_b2 : w.heap.size ≤ b2 := by have := hB1.size; have := N2.num; omega
  have hn_b2 := N2.num
  have hs_b2 := N2.size
  have hB2 := Bl.step hB1 N2.below
  have hK1 := Blk.below N1.blk N2.below
  refine RW.newP (cs := #[.int .i64 i, .int .i64 j]) (T := 39) rfl rfl rfl (Yv.box (v := .agg #[.int .i64 i, .int .i64 j]) rfl rfl) ?_
  intro b3 w3 N3
  have ne2 := New.ne N3 hK1
  have ne3 := New.ne N3 N2.blk
  have lo_b3 : w.heap.size ≤ b3 := by have := hB2.size; have := N3.num; omega
  have hn_b3 := N3.num
  have hs_b3 := N3.size
  have hB3 := Bl.step hB2 N3.below
  have hK2 := Blk.below hK1 N3.below
  have hK3 := Blk.below N2.blk N3.below
  refine RW.yl rfl rfl rfl (Yl.assign rfl rfl) ?_
  refine RW.nil ?_
  change CW _ _ _ _ _ _
  refine CW.seq ?_
  refine CW.seq ?_
  refine CW.region ?_
  refine RW.fn rfl rfl rfl (Yc.func #[] rfl ok12 (args0)) (c12) ?_
  rintro _ w4 ⟨rfl, H1⟩
  have hB4 := Bl.step hB3 H1
  have hK4 := Blk.below hK2 H1
  have hK5 := Blk.below hK3 H1
  have hK6 := Blk.below N3.blk H1
  have hz1 := H1.size
  refine RW.yl rfl rfl rfl (Yl.not rfl rfl) ?_
  refine RW.nil ?_
  change CW _ _ _ _ _ _
  refine CW.condF rfl ?_
  refine CW.skip ?_
  change CW _ _ _ _ _ _
  refine CW.seq ?_
  refine CW.seq ?_
  rcases Bool.eq_false_or_eq_true (smallB c 20) with hg1 | hg1
  ·
    first
    | (exfalso; omega)
    | (
      refine CW.region ?_
      refine RW.yl rfl rfl rfl (Yl.loadAgg (cs := [.slice p c.length cc]) rfl rfl many24 (Blk.cells hK4)) ?_
      refine RW.fn rfl rfl rfl (Yc.func #[.agg #[.slice p c.length cc], .int .i64 20] rfl ok13 (args2 rfl rfl)) (c13 ((hv.mono (kept_from hB0 hB4 (Nat.le_refl _))).wide (Nat.zero_le _) (by omega))) ?_
      rintro _ w5 ⟨rfl, H2⟩
      have hB5 := Bl.step hB4 H2
      have hK7 := Blk.below hK4 H2
      have hK8 := Blk.below hK5 H2
      have hK9 := Blk.below hK6 H2
      have hz2 := H2.size
      rw [hg1]
      refine RW.yl rfl rfl rfl (Yl.not rfl rfl) ?_
      refine RW.yl rfl rfl rfl (Yl.move rfl rfl) ?_
      refine RW.yl rfl rfl rfl (Yl.loadAgg (cs := [.slice p2 d.length cd]) rfl rfl many24 (Blk.cells hK8)) ?_
      refine RW.fn rfl rfl rfl (Yc.func #[.agg #[.slice p2 d.length cd], .int .i64 20] rfl ok13 (args2 rfl rfl)) (c13 ((hu.mono (kept_from hB0 hB5 (Nat.le_refl _))).wide (Nat.zero_le _) (by omega))) ?_
      rintro _ w6 ⟨rfl, H3⟩
      have hB6 := Bl.step hB5 H3
      have hK10 := Blk.below hK7 H3
      have hK11 := Blk.below hK8 H3
      have hK12 := Blk.below hK9 H3
      have hz3 := H3.size
      refine RW.yl rfl rfl rfl (Yl.not rfl rfl) ?_
      refine RW.yl rfl rfl rfl (Yl.pickF rfl rfl rfl) ?_
      refine RW.nil ?_
      change CW _ _ _ _ _ _
      refine CW.cond rfl ?_ ?_
      ·
        intro hg2
        have hg3 : smallB d 20 = false := not_t hg2
        first
        | (exfalso; omega)
        | (
          refine CW.seq ?_
          refine CW.region ?_
          refine RW.yl rfl rfl rfl (Yl.assign rfl rfl) ?_
          refine RW.nil ?_
          change CW _ _ _ _ _ _
          refine CW.ret ?_
          change FinQ _ _ _ _ _ _
          refine fin1 (.inr rfl) rfl rfl ?_
          exact ⟨_, rfl, bval (by first | rfl | exact decide_eq_true (by omega) | exact decide_eq_true (by assumption)), hB6⟩)
      ·
        intro hg4
        have hg5 : smallB d 20 = true := not_f hg4
        first
        | (exfalso; omega)
        | (
          refine CW.skip ?_
          change CW _ _ _ _ _ _
          refine CW.seq ?_
          refine CW.draw 6 rfl (Kp []) (by kernel_rfl) ?_
          intro w7 H4
          have hB7 := Bl.step hB6 H4
          have hK13 := Blk.below hK10 H4
          have hK14 := Blk.below hK11 H4
          have hK15 := Blk.below hK12 H4
          have hz4 := H4.size
          have hS1 := Kp.refl [] w7
          refine RH.take 0 rfl (by kernel_rfl) rfl rfl rfl hS1 (fun W1 hW1 => Yl.indexAddrA (k := 0) rfl rfl rfl Try.underlying39 sz3 rfl (by omega)) ?_
          refine RH.take 1 rfl (by kernel_rfl) rfl rfl rfl hS1 (fun W2 hW2 => Yl.load rfl rfl one3 (Blk.cell (Kp.blk hW2 hK15 (by simp)) rfl)) ?_
          refine RH.take 2 rfl (by kernel_rfl) rfl rfl rfl hS1 (fun W3 hW3 => Yl.indexAddrA (k := 1) rfl rfl rfl Try.underlying39 sz3 rfl (by omega)) ?_
          refine RH.take 3 rfl (by kernel_rfl) rfl rfl rfl hS1 (fun W4 hW4 => Yl.load rfl rfl one3 (Blk.cell (Kp.blk hW4 hK15 (by simp)) rfl)) ?_
          refine RH.take 4 rfl (by kernel_rfl) rfl rfl rfl hS1 (fun W5 hW5 => Yl.assign rfl rfl) ?_
          refine RH.take 5 rfl (by kernel_rfl) rfl rfl rfl hS1 (fun W6 hW6 => Yl.assign rfl rfl) ?_
          refine RH.done (by kernel_rfl) ?_
          change CW _ _ _ _ _ _
          refine CW.seq ?_
          refine CW.region ?_
          refine RW.yl rfl rfl rfl (Yl.loadAgg (cs := [.slice p c.length cc]) rfl rfl many24 (Blk.cells hK13)) ?_
          refine RW.yl rfl rfl rfl (Yl.loadAgg (cs := [.slice p2 d.length cd]) rfl rfl many24 (Blk.cells hK14)) ?_
          refine RW.yl rfl rfl rfl (Yl.move rfl rfl) ?_
          refine RW.yl rfl rfl rfl (Yl.move rfl rfl) ?_
          refine RW.fn rfl rfl rfl (Yc.func #[.agg #[.slice p c.length cc], .agg #[.slice p2 d.length cd], .int .i64 i, .int .i64 j] rfl ok33 (args4 rfl rfl rfl rfl)) (c33 ((hv.mono (kept_from hB0 hB7 (Nat.le_refl _))).wide (Nat.zero_le _) (by omega)) ((hu.mono (kept_from hB0 hB7 (Nat.le_refl _))).wide (Nat.zero_le _) (by omega))) ?_
          rintro _ w8 ⟨s1, rfl, hR1, H5⟩
          obtain ⟨ps1, cs1, rfl, hl1⟩ := hR1.form
          have hB8 := Bl.step hB7 H5
          have hK16 := Blk.below hK13 H5
          have hK17 := Blk.below hK14 H5
          have hK18 := Blk.below hK15 H5
          have hz5 := H5.size
          refine RW.yl rfl rfl rfl (Yl.move rfl rfl) ?_
          refine RW.yl rfl rfl rfl (Yl.extract rfl rfl rfl) ?_
          refine RW.yl rfl rfl rfl (Yl.extract rfl rfl rfl) ?_
          refine RW.newP (cs := #[.slice none 0 0]) (T := 24) rfl rfl rfl (Yv.alloc (z := .agg #[.slice none 0 0]) rfl zero24) ?_
          intro b4 w9 N4
          have ne4 := New.ne N4 hK16
          have ne5 := New.ne N4 hK17
          have ne6 := New.ne N4 hK18
          have lo_b4 : w.heap.size ≤ b4 := by have := hB8.size; have := N4.num; omega
          have hn_b4 := N4.num
          have hs_b4 := N4.size
          have hB9 := Bl.step hB8 N4.below
          have hK19 := Blk.below hK16 N4.below
          have hK20 := Blk.below hK17 N4.below
          have hK21 := Blk.below hK18 N4.below
          have hR2 := hR1.mono (kept_below N4.below (by omega))
          refine RW.stoAll (cs' := #[.slice ps1 (((visR c d i j).1).length) cs1]) rfl rfl N4.blk (Yu.storeAll rfl rfl rfl sz24 N4.blk rfl (by simp [Value.oneCell'])) ?_
          intro w10 H6
          have hB10 := Bl.sto hB9 H6 lo_b4
          have hK22 := Blk.sto hK19 H6 ne4
          have hK23 := Blk.sto hK20 H6 ne5
          have hK24 := Blk.sto hK21 H6 ne6
          have hK25 := H6.blk
          have hR3 := hR2.mono (kept_sto H6 (by omega) (by omega))
          have hz6 := H6.size
          refine RW.yl rfl rfl rfl (Yl.assign rfl rfl) ?_
          refine RW.nil ?_
          change CW _ _ _ _ _ _
          refine CW.seq ?_
          refine CW.region ?_
          refine RW.yl rfl rfl rfl (Yl.loadAgg (cs := [.slice p c.length cc]) rfl rfl many24 (Blk.cells hK22)) ?_
          refine RW.yl rfl rfl rfl (Yl.loadAgg (cs := [.slice p2 d.length cd]) rfl rfl many24 (Blk.cells hK23)) ?_
          refine RW.fn rfl rfl rfl (Yc.func #[.agg #[.slice p c.length cc], .agg #[.slice p2 d.length cd]] rfl ok22 (args2 rfl rfl)) (c22 ((hv.mono (kept_from hB0 hB10 (Nat.le_refl _))).wide (Nat.zero_le _) (by omega)) ((hu.mono (kept_from hB0 hB10 (Nat.le_refl _))).wide (Nat.zero_le _) (by omega))) ?_
          rintro _ w11 ⟨rfl, H7⟩
          have hB11 := Bl.step hB10 H7
          have hK26 := Blk.below hK22 H7
          have hK27 := Blk.below hK23 H7
          have hK28 := Blk.below hK24 H7
          have hK29 := Blk.below hK25 H7
          have hR4 := hR3.mono (kept_below H7 (by omega))
          have hz7 := H7.size
          refine RW.yl rfl rfl rfl (Yl.assign rfl rfl) ?_
          refine RW.nil ?_
          change CW _ _ _ _ _ _
          refine CW.seq ?_
          refine CW.seq ?_
          rcases Bool.eq_false_or_eq_true (decide ((lpairG c d) = 0)) with hg6 | hg6
          ·
            have hq4 := of_decide_eq_true hg6
            obtain ⟨hv_c, hv_d, hlen⟩ := lpairG_zero (of_decide_eq_true hg6)
            have ht_c := totG_bounds hv_c
            have hcc_c := validB_chan hv_c
            have hr1_c := hcc_c.r1
            have hr2_c := hcc_c.r2
            have hc1_c := hcc_c.c1
            have hc2_c := hcc_c.c2
            have ht_d := totG_bounds hv_d
            have hcc_d := validB_chan hv_d
            have hr1_d := hcc_d.r1
            have hr2_d := hcc_d.r2
            have hc1_d := hcc_d.c1
            have hc2_d := hcc_d.c2
            have hmm := mul_small ⟨ht_c.1, ht_c.2.1⟩ ⟨ht_d.1, ht_d.2.1⟩
            have hcc2 := Nat.mul_le_mul hc2_c hc2_d
            obtain ⟨hwc, hwcd, hwctd⟩ := worth_mul_bounds hv_c hv_d
            obtain ⟨hwd, hwdc, hwdtc⟩ := worth_mul_bounds hv_d hv_c
            first
            | (exfalso; omega)
            | (
              rcases Bool.eq_false_or_eq_true (decide (i < 1)) with hg7 | hg7
              ·
                have hq5 := of_decide_eq_true hg7
                have hk : visR c d i j = ([], 3) := visR_w hv_c hv_d hlen (weights_no (by omega))
                have hk1 : (visR c d i j).1 = [] := by rw [hk]
                have hk2 : (visR c d i j).2 = 3 := by rw [hk]
                have hk3 : (visR c d i j).1.length = 0 := by rw [hk]; rfl
                first
                | (exfalso; omega)
                | (
                  refine CW.region ?_
                  refine RW.yl rfl rfl rfl (Yl.move rfl rfl) ?_
                  refine RW.yl rfl rfl rfl (Yl.eqb (Yl.eql rfl rfl rfl) hg6) ?_
                  refine RW.yl rfl rfl rfl (Yl.move rfl rfl) ?_
                  refine RW.yl rfl rfl rfl (Yl.move rfl rfl) ?_
                  refine RW.yl rfl rfl rfl (Yl.eqb (Yl.lss rfl rfl rfl) hg7) ?_
                  refine RW.yl rfl rfl rfl (Yl.move rfl rfl) ?_
                  refine RW.skip rfl rfl rfl ?_
                  refine RW.skip rfl rfl rfl ?_
                  refine RW.yl rfl rfl rfl (Yl.pickT rfl rfl rfl) ?_
                  refine RW.yl rfl rfl rfl (Yl.move rfl rfl) ?_
                  refine RW.skip rfl rfl rfl ?_
                  refine RW.skip rfl rfl rfl ?_
                  refine RW.yl rfl rfl rfl (Yl.pickT rfl rfl rfl) ?_
                  refine RW.yl rfl rfl rfl (Yl.move rfl rfl) ?_
                  refine RW.skip rfl rfl rfl ?_
                  refine RW.skip rfl rfl rfl ?_
                  refine RW.yl rfl rfl rfl (Yl.pickT rfl rfl rfl) ?_
                  refine RW.yl rfl rfl rfl (Yl.pickT rfl rfl rfl) ?_
                  refine RW.nil ?_
                  change CW _ _ _ _ _ _
                  refine CW.condT rfl ?_
                  refine CW.region ?_
                  refine RW.yl rfl rfl rfl (Yl.assign rfl rfl) ?_
                  refine RW.nil ?_
                  change CW _ _ _ _ _ _
                  refine CW.seq ?_
                  refine CW.seq ?_
                  refine CW.region ?_
                  refine RW.yl rfl rfl rfl (Yl.move rfl rfl) ?_
                  refine RW.yl rfl rfl rfl (Yl.eqb (Yl.eql rfl rfl rfl) (show (decide ((3 : Int) = 0)) = false by decide)) ?_
                  refine RW.nil ?_
                  change CW _ _ _ _ _ _
                  refine CW.condF rfl ?_
                  refine CW.skip ?_
                  change CW _ _ _ _ _ _
                  refine CW.seq ?_
                  refine CW.seq ?_
                  refine CW.region ?_
                  refine RW.yl rfl rfl rfl (Yl.move rfl rfl) ?_
                  refine RW.yl rfl rfl rfl (Yl.eqb (Yl.neq rfl rfl rfl) (show (!decide ((3 : Int) = 0)) = true by decide)) ?_
                  refine RW.nil ?_
                  change CW _ _ _ _ _ _
                  refine CW.condT rfl ?_
                  refine CW.seq ?_
                  rcases Bool.eq_false_or_eq_true (decide (((visR c d i j).2) = 3)) with hg8 | hg8
                  ·
                    have hq6 := of_decide_eq_true hg8
                    first
                    | (exfalso; omega)
                    | (
                      refine CW.region ?_
                      refine RW.yl rfl rfl rfl (Yl.move rfl rfl) ?_
                      refine RW.yl rfl rfl rfl (Yl.move rfl rfl) ?_
                      refine RW.yl rfl rfl rfl (Yl.eqb (Yl.eql rfl rfl rfl) hg8) ?_
                      refine RW.yl rfl rfl rfl (Yl.move rfl rfl) ?_
                      refine RW.yl rfl rfl rfl (Yl.loadAgg (cs := [.slice ps1 (((visR c d i j).1).length) cs1]) rfl rfl many24 (Blk.cells hK29)) ?_
                      refine RW.fn rfl rfl rfl (Yc.func #[.agg #[.slice ps1 (((visR c d i j).1).length) cs1]] rfl ok18 (args1 rfl)) (c18 (hR4.wide (Nat.zero_le _) (by omega))) ?_
                      rintro _ w12 ⟨rfl, H8⟩
                      have hB12 := Bl.step hB11 H8
                      have hK30 := Blk.below hK26 H8
                      have hK31 := Blk.below hK27 H8
                      have hK32 := Blk.below hK28 H8
                      have hK33 := Blk.below hK29 H8
                      have hR5 := hR4.mono (kept_below H8 (by omega))
                      have hz8 := H8.size
                      refine RW.yl rfl rfl rfl (Yl.pickT rfl rfl rfl) ?_
                      refine RW.yl rfl rfl rfl (Yl.assign rfl rfl) ?_
                      refine RW.nil ?_
                      change CW _ _ _ _ _ _
                      refine CW.ret ?_
                      change FinQ _ _ _ _ _ _
                      refine fin1 (.inr rfl) rfl rfl ?_
                      exact ⟨_, rfl, bval (by first | rfl | exact decide_eq_true (by omega) | exact decide_eq_true (by assumption)), hB12⟩)
                  ·
                    have hq6 := of_decide_eq_false hg8
                    first
                    | (exfalso; omega)
                    | (
                      refine CW.region ?_
                      refine RW.yl rfl rfl rfl (Yl.move rfl rfl) ?_
                      refine RW.yl rfl rfl rfl (Yl.move rfl rfl) ?_
                      refine RW.yl rfl rfl rfl (Yl.eqb (Yl.eql rfl rfl rfl) hg8) ?_
                      refine RW.yl rfl rfl rfl (Yl.move rfl rfl) ?_
                      refine RW.skip rfl rfl rfl ?_
                      refine RW.skip rfl rfl rfl ?_
                      refine RW.yl rfl rfl rfl (Yl.pickF rfl rfl rfl) ?_
                      refine RW.yl rfl rfl rfl (Yl.assign rfl rfl) ?_
                      refine RW.nil ?_
                      change CW _ _ _ _ _ _
                      refine CW.ret ?_
                      change FinQ _ _ _ _ _ _
                      refine fin1 (.inr rfl) rfl rfl ?_
                      exact ⟨_, rfl, bval (by first | rfl | exact decide_eq_true (by omega) | exact decide_eq_true (by assumption)), hB11⟩))
              ·
                have hq5 := of_decide_eq_false hg7
                first
                | (exfalso; omega)
                | (
                  rcases Bool.eq_false_or_eq_true (decide (100 < i)) with hg9 | hg9
                  ·
                    have hq7 := of_decide_eq_true hg9
                    have hk : visR c d i j = ([], 3) := visR_w hv_c hv_d hlen (weights_no (by omega))
                    have hk1 : (visR c d i j).1 = [] := by rw [hk]
                    have hk2 : (visR c d i j).2 = 3 := by rw [hk]
                    have hk3 : (visR c d i j).1.length = 0 := by rw [hk]; rfl
                    first
                    | (exfalso; omega)
                    | (
                      refine CW.region ?_
                      refine RW.yl rfl rfl rfl (Yl.move rfl rfl) ?_
                      refine RW.yl rfl rfl rfl (Yl.eqb (Yl.eql rfl rfl rfl) hg6) ?_
                      refine RW.yl rfl rfl rfl (Yl.move rfl rfl) ?_
                      refine RW.yl rfl rfl rfl (Yl.move rfl rfl) ?_
                      refine RW.yl rfl rfl rfl (Yl.eqb (Yl.lss rfl rfl rfl) hg7) ?_
                      refine RW.yl rfl rfl rfl (Yl.move rfl rfl) ?_
                      refine RW.yl rfl rfl rfl (Yl.move rfl rfl) ?_
                      refine RW.yl rfl rfl rfl (Yl.eqb (Yl.gtr rfl rfl rfl) hg9) ?_
                      refine RW.yl rfl rfl rfl (Yl.pickF rfl rfl rfl) ?_
                      refine RW.yl rfl rfl rfl (Yl.move rfl rfl) ?_
                      refine RW.skip rfl rfl rfl ?_
                      refine RW.skip rfl rfl rfl ?_
                      refine RW.yl rfl rfl rfl (Yl.pickT rfl rfl rfl) ?_
                      refine RW.yl rfl rfl rfl (Yl.move rfl rfl) ?_
                      refine RW.skip rfl rfl rfl ?_
                      refine RW.skip rfl rfl rfl ?_
                      refine RW.yl rfl rfl rfl (Yl.pickT rfl rfl rfl) ?_
                      refine RW.yl rfl rfl rfl (Yl.pickT rfl rfl rfl) ?_
                      refine RW.nil ?_
                      change CW _ _ _ _ _ _
                      refine CW.condT rfl ?_
                      refine CW.region ?_
                      refine RW.yl rfl rfl rfl (Yl.assign rfl rfl) ?_
                      refine RW.nil ?_
                      change CW _ _ _ _ _ _
                      refine CW.seq ?_
                      refine CW.seq ?_
                      refine CW.region ?_
                      refine RW.yl rfl rfl rfl (Yl.move rfl rfl) ?_
                      refine RW.yl rfl rfl rfl (Yl.eqb (Yl.eql rfl rfl rfl) (show (decide ((3 : Int) = 0)) = false by decide)) ?_
                      refine RW.nil ?_
                      change CW _ _ _ _ _ _
                      refine CW.condF rfl ?_
                      refine CW.skip ?_
                      change CW _ _ _ _ _ _
                      refine CW.seq ?_
                      refine CW.seq ?_
                      refine CW.region ?_
                      refine RW.yl rfl rfl rfl (Yl.move rfl rfl) ?_
                      refine RW.yl rfl rfl rfl (Yl.eqb (Yl.neq rfl rfl rfl) (show (!decide ((3 : Int) = 0)) = true by decide)) ?_
                      refine RW.nil ?_
                      change CW _ _ _ _ _ _
                      refine CW.condT rfl ?_
                      refine CW.seq ?_
                      rcases Bool.eq_false_or_eq_true (decide (((visR c d i j).2) = 3)) with hg10 | hg10
                      ·
                        have hq8 := of_decide_eq_true hg10
                        first
                        | (exfalso; omega)
                        | (
                          refine CW.region ?_
                          refine RW.yl rfl rfl rfl (Yl.move rfl rfl) ?_
                          refine RW.yl rfl rfl rfl (Yl.move rfl rfl) ?_
                          refine RW.yl rfl rfl rfl (Yl.eqb (Yl.eql rfl rfl rfl) hg10) ?_
                          refine RW.yl rfl rfl rfl (Yl.move rfl rfl) ?_
                          refine RW.yl rfl rfl rfl (Yl.loadAgg (cs := [.slice ps1 (((visR c d i j).1).length) cs1]) rfl rfl many24 (Blk.cells hK29)) ?_
                          refine RW.fn rfl rfl rfl (Yc.func #[.agg #[.slice ps1 (((visR c d i j).1).length) cs1]] rfl ok18 (args1 rfl)) (c18 (hR4.wide (Nat.zero_le _) (by omega))) ?_
                          rintro _ w13 ⟨rfl, H9⟩
                          have hB13 := Bl.step hB11 H9
                          have hK34 := Blk.below hK26 H9
                          have hK35 := Blk.below hK27 H9
                          have hK36 := Blk.below hK28 H9
                          have hK37 := Blk.below hK29 H9
                          have hR6 := hR4.mono (kept_below H9 (by omega))
                          have hz9 := H9.size
                          refine RW.yl rfl rfl rfl (Yl.pickT rfl rfl rfl) ?_
                          refine RW.yl rfl rfl rfl (Yl.assign rfl rfl) ?_
                          refine RW.nil ?_
                          change CW _ _ _ _ _ _
                          refine CW.ret ?_
                          change FinQ _ _ _ _ _ _
                          refine fin1 (.inr rfl) rfl rfl ?_
                          exact ⟨_, rfl, bval (by first | rfl | exact decide_eq_true (by omega) | exact decide_eq_true (by assumption)), hB13⟩)
                      ·
                        have hq8 := of_decide_eq_false hg10
                        first
                        | (exfalso; omega)
                        | (
                          refine CW.region ?_
                          refine RW.yl rfl rfl rfl (Yl.move rfl rfl) ?_
                          refine RW.yl rfl rfl rfl (Yl.move rfl rfl) ?_
                          refine RW.yl rfl rfl rfl (Yl.eqb (Yl.eql rfl rfl rfl) hg10) ?_
                          refine RW.yl rfl rfl rfl (Yl.move rfl rfl) ?_
                          refine RW.skip rfl rfl rfl ?_
                          refine RW.skip rfl rfl rfl ?_
                          refine RW.yl rfl rfl rfl (Yl.pickF rfl rfl rfl) ?_
                          refine RW.yl rfl rfl rfl (Yl.assign rfl rfl) ?_
                          refine RW.nil ?_
                          change CW _ _ _ _ _ _
                          refine CW.ret ?_
                          change FinQ _ _ _ _ _ _
                          refine fin1 (.inr rfl) rfl rfl ?_
                          exact ⟨_, rfl, bval (by first | rfl | exact decide_eq_true (by omega) | exact decide_eq_true (by assumption)), hB11⟩))
                  ·
                    have hq7 := of_decide_eq_false hg9
                    first
                    | (exfalso; omega)
                    | (
                      rcases Bool.eq_false_or_eq_true (decide (j < 1)) with hg11 | hg11
                      ·
                        have hq9 := of_decide_eq_true hg11
                        have hk : visR c d i j = ([], 3) := visR_w hv_c hv_d hlen (weights_no (by omega))
                        have hk1 : (visR c d i j).1 = [] := by rw [hk]
                        have hk2 : (visR c d i j).2 = 3 := by rw [hk]
                        have hk3 : (visR c d i j).1.length = 0 := by rw [hk]; rfl
                        first
                        | (exfalso; omega)
                        | (
                          refine CW.region ?_
                          refine RW.yl rfl rfl rfl (Yl.move rfl rfl) ?_
                          refine RW.yl rfl rfl rfl (Yl.eqb (Yl.eql rfl rfl rfl) hg6) ?_
                          refine RW.yl rfl rfl rfl (Yl.move rfl rfl) ?_
                          refine RW.yl rfl rfl rfl (Yl.move rfl rfl) ?_
                          refine RW.yl rfl rfl rfl (Yl.eqb (Yl.lss rfl rfl rfl) hg7) ?_
                          refine RW.yl rfl rfl rfl (Yl.move rfl rfl) ?_
                          refine RW.yl rfl rfl rfl (Yl.move rfl rfl) ?_
                          refine RW.yl rfl rfl rfl (Yl.eqb (Yl.gtr rfl rfl rfl) hg9) ?_
                          refine RW.yl rfl rfl rfl (Yl.pickF rfl rfl rfl) ?_
                          refine RW.yl rfl rfl rfl (Yl.move rfl rfl) ?_
                          refine RW.yl rfl rfl rfl (Yl.move rfl rfl) ?_
                          refine RW.yl rfl rfl rfl (Yl.eqb (Yl.lss rfl rfl rfl) hg11) ?_
                          refine RW.yl rfl rfl rfl (Yl.pickF rfl rfl rfl) ?_
                          refine RW.yl rfl rfl rfl (Yl.move rfl rfl) ?_
                          refine RW.skip rfl rfl rfl ?_
                          refine RW.skip rfl rfl rfl ?_
                          refine RW.yl rfl rfl rfl (Yl.pickT rfl rfl rfl) ?_
                          refine RW.yl rfl rfl rfl (Yl.pickT rfl rfl rfl) ?_
                          refine RW.nil ?_
                          change CW _ _ _ _ _ _
                          refine CW.condT rfl ?_
                          refine CW.region ?_
                          refine RW.yl rfl rfl rfl (Yl.assign rfl rfl) ?_
                          refine RW.nil ?_
                          change CW _ _ _ _ _ _
                          refine CW.seq ?_
                          refine CW.seq ?_
                          refine CW.region ?_
                          refine RW.yl rfl rfl rfl (Yl.move rfl rfl) ?_
                          refine RW.yl rfl rfl rfl (Yl.eqb (Yl.eql rfl rfl rfl) (show (decide ((3 : Int) = 0)) = false by decide)) ?_
                          refine RW.nil ?_
                          change CW _ _ _ _ _ _
                          refine CW.condF rfl ?_
                          refine CW.skip ?_
                          change CW _ _ _ _ _ _
                          refine CW.seq ?_
                          refine CW.seq ?_
                          refine CW.region ?_
                          refine RW.yl rfl rfl rfl (Yl.move rfl rfl) ?_
                          refine RW.yl rfl rfl rfl (Yl.eqb (Yl.neq rfl rfl rfl) (show (!decide ((3 : Int) = 0)) = true by decide)) ?_
                          refine RW.nil ?_
                          change CW _ _ _ _ _ _
                          refine CW.condT rfl ?_
                          refine CW.seq ?_
                          rcases Bool.eq_false_or_eq_true (decide (((visR c d i j).2) = 3)) with hg12 | hg12
                          ·
                            have hq10 := of_decide_eq_true hg12
                            first
                            | (exfalso; omega)
                            | (
                              refine CW.region ?_
                              refine RW.yl rfl rfl rfl (Yl.move rfl rfl) ?_
                              refine RW.yl rfl rfl rfl (Yl.move rfl rfl) ?_
                              refine RW.yl rfl rfl rfl (Yl.eqb (Yl.eql rfl rfl rfl) hg12) ?_
                              refine RW.yl rfl rfl rfl (Yl.move rfl rfl) ?_
                              refine RW.yl rfl rfl rfl (Yl.loadAgg (cs := [.slice ps1 (((visR c d i j).1).length) cs1]) rfl rfl many24 (Blk.cells hK29)) ?_
                              refine RW.fn rfl rfl rfl (Yc.func #[.agg #[.slice ps1 (((visR c d i j).1).length) cs1]] rfl ok18 (args1 rfl)) (c18 (hR4.wide (Nat.zero_le _) (by omega))) ?_
                              rintro _ w14 ⟨rfl, H10⟩
                              have hB14 := Bl.step hB11 H10
                              have hK38 := Blk.below hK26 H10
                              have hK39 := Blk.below hK27 H10
                              have hK40 := Blk.below hK28 H10
                              have hK41 := Blk.below hK29 H10
                              have hR7 := hR4.mono (kept_below H10 (by omega))
                              have hz10 := H10.size
                              refine RW.yl rfl rfl rfl (Yl.pickT rfl rfl rfl) ?_
                              refine RW.yl rfl rfl rfl (Yl.assign rfl rfl) ?_
                              refine RW.nil ?_
                              change CW _ _ _ _ _ _
                              refine CW.ret ?_
                              change FinQ _ _ _ _ _ _
                              refine fin1 (.inr rfl) rfl rfl ?_
                              exact ⟨_, rfl, bval (by first | rfl | exact decide_eq_true (by omega) | exact decide_eq_true (by assumption)), hB14⟩)
                          ·
                            have hq10 := of_decide_eq_false hg12
                            first
                            | (exfalso; omega)
                            | (
                              refine CW.region ?_
                              refine RW.yl rfl rfl rfl (Yl.move rfl rfl) ?_
                              refine RW.yl rfl rfl rfl (Yl.move rfl rfl) ?_
                              refine RW.yl rfl rfl rfl (Yl.eqb (Yl.eql rfl rfl rfl) hg12) ?_
                              refine RW.yl rfl rfl rfl (Yl.move rfl rfl) ?_
                              refine RW.skip rfl rfl rfl ?_
                              refine RW.skip rfl rfl rfl ?_
                              refine RW.yl rfl rfl rfl (Yl.pickF rfl rfl rfl) ?_
                              refine RW.yl rfl rfl rfl (Yl.assign rfl rfl) ?_
                              refine RW.nil ?_
                              change CW _ _ _ _ _ _
                              refine CW.ret ?_
                              change FinQ _ _ _ _ _ _
                              refine fin1 (.inr rfl) rfl rfl ?_
                              exact ⟨_, rfl, bval (by first | rfl | exact decide_eq_true (by omega) | exact decide_eq_true (by assumption)), hB11⟩))
                      ·
                        have hq9 := of_decide_eq_false hg11
                        first
                        | (exfalso; omega)
                        | (
                          refine CW.region ?_
                          refine RW.yl rfl rfl rfl (Yl.move rfl rfl) ?_
                          refine RW.yl rfl rfl rfl (Yl.eqb (Yl.eql rfl rfl rfl) hg6) ?_
                          refine RW.yl rfl rfl rfl (Yl.move rfl rfl) ?_
                          refine RW.yl rfl rfl rfl (Yl.move rfl rfl) ?_
                          refine RW.yl rfl rfl rfl (Yl.eqb (Yl.lss rfl rfl rfl) hg7) ?_
                          refine RW.yl rfl rfl rfl (Yl.move rfl rfl) ?_
                          refine RW.yl rfl rfl rfl (Yl.move rfl rfl) ?_
                          refine RW.yl rfl rfl rfl (Yl.eqb (Yl.gtr rfl rfl rfl) hg9) ?_
                          refine RW.yl rfl rfl rfl (Yl.pickF rfl rfl rfl) ?_
                          refine RW.yl rfl rfl rfl (Yl.move rfl rfl) ?_
                          refine RW.yl rfl rfl rfl (Yl.move rfl rfl) ?_
                          refine RW.yl rfl rfl rfl (Yl.eqb (Yl.lss rfl rfl rfl) hg11) ?_
                          refine RW.yl rfl rfl rfl (Yl.pickF rfl rfl rfl) ?_
                          refine RW.yl rfl rfl rfl (Yl.move rfl rfl) ?_
                          refine RW.yl rfl rfl rfl (Yl.move rfl rfl) ?_
                          refine RW.yl rfl rfl rfl (Yl.gtr rfl rfl rfl) ?_
                          refine RW.yl rfl rfl rfl (Yl.pickF rfl rfl rfl) ?_
                          refine RW.yl rfl rfl rfl (Yl.pickT rfl rfl rfl) ?_
                          refine RW.nil ?_
                          change CW _ _ _ _ _ _
                          refine CW.cond rfl ?_ ?_
                          ·
                            intro hg13
                            have hq12 := of_decide_eq_true hg13
                            have hk : visR c d i j = ([], 3) := visR_w hv_c hv_d hlen (weights_no (by omega))
                            have hk1 : (visR c d i j).1 = [] := by rw [hk]
                            have hk2 : (visR c d i j).2 = 3 := by rw [hk]
                            have hk3 : (visR c d i j).1.length = 0 := by rw [hk]; rfl
                            first
                            | (exfalso; omega)
                            | (
                              refine CW.region ?_
                              refine RW.yl rfl rfl rfl (Yl.assign rfl rfl) ?_
                              refine RW.nil ?_
                              change CW _ _ _ _ _ _
                              refine CW.seq ?_
                              refine CW.seq ?_
                              refine CW.region ?_
                              refine RW.yl rfl rfl rfl (Yl.move rfl rfl) ?_
                              refine RW.yl rfl rfl rfl (Yl.eqb (Yl.eql rfl rfl rfl) (show (decide ((3 : Int) = 0)) = false by decide)) ?_
                              refine RW.nil ?_
                              change CW _ _ _ _ _ _
                              refine CW.condF rfl ?_
                              refine CW.skip ?_
                              change CW _ _ _ _ _ _
                              refine CW.seq ?_
                              refine CW.seq ?_
                              refine CW.region ?_
                              refine RW.yl rfl rfl rfl (Yl.move rfl rfl) ?_
                              refine RW.yl rfl rfl rfl (Yl.eqb (Yl.neq rfl rfl rfl) (show (!decide ((3 : Int) = 0)) = true by decide)) ?_
                              refine RW.nil ?_
                              change CW _ _ _ _ _ _
                              refine CW.condT rfl ?_
                              refine CW.seq ?_
                              rcases Bool.eq_false_or_eq_true (decide (((visR c d i j).2) = 3)) with hg14 | hg14
                              ·
                                have hq13 := of_decide_eq_true hg14
                                first
                                | (exfalso; omega)
                                | (
                                  refine CW.region ?_
                                  refine RW.yl rfl rfl rfl (Yl.move rfl rfl) ?_
                                  refine RW.yl rfl rfl rfl (Yl.move rfl rfl) ?_
                                  refine RW.yl rfl rfl rfl (Yl.eqb (Yl.eql rfl rfl rfl) hg14) ?_
                                  refine RW.yl rfl rfl rfl (Yl.move rfl rfl) ?_
                                  refine RW.yl rfl rfl rfl (Yl.loadAgg (cs := [.slice ps1 (((visR c d i j).1).length) cs1]) rfl rfl many24 (Blk.cells hK29)) ?_
                                  refine RW.fn rfl rfl rfl (Yc.func #[.agg #[.slice ps1 (((visR c d i j).1).length) cs1]] rfl ok18 (args1 rfl)) (c18 (hR4.wide (Nat.zero_le _) (by omega))) ?_
                                  rintro _ w15 ⟨rfl, H11⟩
                                  have hB15 := Bl.step hB11 H11
                                  have hK42 := Blk.below hK26 H11
                                  have hK43 := Blk.below hK27 H11
                                  have hK44 := Blk.below hK28 H11
                                  have hK45 := Blk.below hK29 H11
                                  have hR8 := hR4.mono (kept_below H11 (by omega))
                                  have hz11 := H11.size
                                  refine RW.yl rfl rfl rfl (Yl.pickT rfl rfl rfl) ?_
                                  refine RW.yl rfl rfl rfl (Yl.assign rfl rfl) ?_
                                  refine RW.nil ?_
                                  change CW _ _ _ _ _ _
                                  refine CW.ret ?_
                                  change FinQ _ _ _ _ _ _
                                  refine fin1 (.inr rfl) rfl rfl ?_
                                  exact ⟨_, rfl, bval (by first | rfl | exact decide_eq_true (by omega) | exact decide_eq_true (by assumption)), hB15⟩)
                              ·
                                have hq13 := of_decide_eq_false hg14
                                first
                                | (exfalso; omega)
                                | (
                                  refine CW.region ?_
                                  refine RW.yl rfl rfl rfl (Yl.move rfl rfl) ?_
                                  refine RW.yl rfl rfl rfl (Yl.move rfl rfl) ?_
                                  refine RW.yl rfl rfl rfl (Yl.eqb (Yl.eql rfl rfl rfl) hg14) ?_
                                  refine RW.yl rfl rfl rfl (Yl.move rfl rfl) ?_
                                  refine RW.skip rfl rfl rfl ?_
                                  refine RW.skip rfl rfl rfl ?_
                                  refine RW.yl rfl rfl rfl (Yl.pickF rfl rfl rfl) ?_
                                  refine RW.yl rfl rfl rfl (Yl.assign rfl rfl) ?_
                                  refine RW.nil ?_
                                  change CW _ _ _ _ _ _
                                  refine CW.ret ?_
                                  change FinQ _ _ _ _ _ _
                                  refine fin1 (.inr rfl) rfl rfl ?_
                                  exact ⟨_, rfl, bval (by first | rfl | exact decide_eq_true (by omega) | exact decide_eq_true (by assumption)), hB11⟩))
                          ·
                            intro hg15
                            have hq15 := of_decide_eq_false hg15
                            have hw : weightsB i j = true := weights_ok ⟨by assumption, by assumption, by assumption, by assumption⟩
                            have hm1 : 0 ≤ (i + j) * totG c ∧ (i + j) * totG c ≤ 200 * 1048576 := mul_bound ⟨by omega, by omega⟩ ⟨ht_c.1, ht_c.2.1⟩
                            have hm2 : 0 ≤ ((i + j) * totG c) * totG d ∧ ((i + j) * totG c) * totG d ≤ (200 * 1048576) * 1048576 := mul_bound hm1 ⟨ht_d.1, ht_d.2.1⟩
                            have ha : 0 ≤ i * totG d ∧ i * totG d ≤ 100 * 1048576 := mul_bound ⟨by omega, by omega⟩ ⟨ht_d.1, ht_d.2.1⟩
                            have hb : 0 ≤ j * totG c ∧ j * totG c ≤ 100 * 1048576 := mul_bound ⟨by omega, by omega⟩ ⟨ht_c.1, ht_c.2.1⟩
                            have hac : 0 ≤ (i * totG d) * worthM c ∧ (i * totG d) * worthM c ≤ (100 * 1048576) * 268435456 := mul_bound ha hwc
                            have hbd : 0 ≤ (j * totG c) * worthM d ∧ (j * totG c) * worthM d ≤ (100 * 1048576) * 268435456 := mul_bound hb hwd
                            first
                            | (exfalso; omega)
                            | (
                              refine CW.skip ?_
                              change CW _ _ _ _ _ _
                              refine CW.seq ?_
                              refine CW.seq ?_
                              refine CW.region ?_
                              refine RW.yl rfl rfl rfl (Yl.move rfl rfl) ?_
                              refine RW.yl rfl rfl rfl (Yl.eqb (Yl.eql rfl rfl rfl) hg6) ?_
                              refine RW.nil ?_
                              change CW _ _ _ _ _ _
                              refine CW.condT rfl ?_
                              refine CW.draw 22 rfl (Kp []) (by kernel_rfl) ?_
                              intro w16 H12
                              have hB16 := Bl.step hB11 H12
                              have hK46 := Blk.below hK26 H12
                              have hK47 := Blk.below hK27 H12
                              have hK48 := Blk.below hK28 H12
                              have hK49 := Blk.below hK29 H12
                              have hR9 := hR4.mono (kept_below H12 (by omega))
                              have hz12 := H12.size
                              have hS2 := Kp.refl [] w16
                              refine RH.take 0 rfl (by kernel_rfl) rfl rfl rfl hS2 (fun W7 hW7 => Yl.fieldAddr rfl rfl Try.underlying24 rfl sz22) ?_
                              refine RH.take 1 rfl (by kernel_rfl) rfl rfl rfl hS2 (fun W8 hW8 => Yl.load rfl rfl one22 (Blk.cell (Kp.blk hW8 hK46 (by simp)) rfl)) ?_
                              obtain ⟨bx1, ox1, px1, cx1, hp1, hl2, hh1, hc1, hx1, hn1⟩ := (hv.mono (kept_from hB0 hB16 (Nat.le_refl _))).at 0 (by omega)
                              refine RH.take 2 rfl (by kernel_rfl) rfl rfl rfl hS2 (fun W9 hW9 => Yl.indexAddr1 (k := 0) rfl rfl rfl Try.underlying22 sz31 hp1 rfl (by omega)) ?_
                              refine RH.take 3 rfl (by kernel_rfl) rfl rfl rfl hS2 (fun W10 hW10 => Yl.load rfl rfl one31 (Kp.cell hW10 hc1 (by simp))) ?_
                              refine RH.take 4 rfl (by kernel_rfl) rfl rfl rfl hS2 (fun W11 hW11 => Yl.len rfl rfl Try.underlying31) ?_
                              refine RH.take 5 rfl (by kernel_rfl) rfl rfl rfl hS2 (fun W12 hW12 => Yl.fieldAddr rfl rfl Try.underlying24 rfl sz22) ?_
                              refine RH.take 6 rfl (by kernel_rfl) rfl rfl rfl hS2 (fun W13 hW13 => Yl.load rfl rfl one22 (Blk.cell (Kp.blk hW13 hK47 (by simp)) rfl)) ?_
                              obtain ⟨bx2, ox2, px2, cx2, hp2, hl3, hh2, hc2, hx2, hn2⟩ := (hu.mono (kept_from hB0 hB16 (Nat.le_refl _))).at 0 (by omega)
                              refine RH.take 7 rfl (by kernel_rfl) rfl rfl rfl hS2 (fun W14 hW14 => Yl.indexAddr1 (k := 0) rfl rfl rfl Try.underlying22 sz31 hp2 rfl (by omega)) ?_
                              refine RH.take 8 rfl (by kernel_rfl) rfl rfl rfl hS2 (fun W15 hW15 => Yl.load rfl rfl one31 (Kp.cell hW15 hc2 (by simp))) ?_
                              refine RH.take 9 rfl (by kernel_rfl) rfl rfl rfl hS2 (fun W16 hW16 => Yl.len rfl rfl Try.underlying31) ?_
                              refine RH.take 10 rfl (by kernel_rfl) rfl rfl rfl hS2 (fun W17 hW17 => Yl.addN (a := (c[0]!).length) (b := (d[0]!).length) rfl rfl rfl (by omega)) ?_
                              refine RH.take 11 rfl (by kernel_rfl) rfl rfl rfl hS2 (fun W18 hW18 => Yl.move rfl rfl) ?_
                              refine RH.take 12 rfl (by kernel_rfl) rfl rfl rfl hS2 (fun W19 hW19 => Yl.move rfl rfl) ?_
                              refine RH.take 13 rfl (by kernel_rfl) rfl rfl rfl hS2 (fun W20 hW20 => Yl.add (m := i) (n := j) rfl rfl rfl (by omega)) ?_
                              refine RH.take 14 rfl (by kernel_rfl) rfl rfl rfl hS2 (fun W21 hW21 => Yl.loadAgg (cs := [.slice p c.length cc]) rfl rfl many24 (Blk.cells (Kp.blk hW21 hK46 (by simp)))) ?_
                              refine RH.take 17 rfl (by kernel_rfl) rfl rfl rfl hS2 (fun W23 hW23 => Yl.loadAgg (cs := [.slice p2 d.length cd]) rfl rfl many24 (Blk.cells (Kp.blk hW23 hK47 (by simp)))) ?_
                              refine RH.one 15 (by kernel_rfl) ?_
                              refine RO.fn rfl rfl rfl rfl (Yc.func #[.agg #[.slice p c.length cc]] rfl ok17 (args1 rfl)) (c17 ((hv.mono (kept_from hB0 hB16 (Nat.le_refl _))).wide (Nat.zero_le _) (by omega)) (validB_chanT hv_c)) ?_
                              rintro _ w17 ⟨rfl, H13⟩
                              have hS3 := Kp.step hS2 H13
                              have hB17 := Bl.step hB16 H13
                              have hK50 := Blk.below hK46 H13
                              have hK51 := Blk.below hK47 H13
                              have hK52 := Blk.below hK48 H13
                              have hK53 := Blk.below hK49 H13
                              have hR10 := hR9.mono (kept_below H13 (by omega))
                              have hz13 := H13.size
                              refine ⟨hS3, ?_⟩
                              refine RH.take 16 rfl (by kernel_rfl) rfl rfl rfl hS3 (fun W25 hW25 => Yl.mul (m := i + j) (n := totG c) rfl rfl rfl (by omega)) ?_
                              refine RH.one 18 (by kernel_rfl) ?_
                              refine RO.fn rfl rfl rfl rfl (Yc.func #[.agg #[.slice p2 d.length cd]] rfl ok17 (args1 rfl)) (c17 ((hu.mono (kept_from hB0 hB17 (Nat.le_refl _))).wide (Nat.zero_le _) (by omega)) (validB_chanT hv_d)) ?_
                              rintro _ w18 ⟨rfl, H14⟩
                              have hS4 := Kp.step hS3 H14
                              have hB18 := Bl.step hB17 H14
                              have hK54 := Blk.below hK50 H14
                              have hK55 := Blk.below hK51 H14
                              have hK56 := Blk.below hK52 H14
                              have hK57 := Blk.below hK53 H14
                              have hR11 := hR10.mono (kept_below H14 (by omega))
                              have hz14 := H14.size
                              refine ⟨hS4, ?_⟩
                              refine RH.take 19 rfl (by kernel_rfl) rfl rfl rfl hS4 (fun W27 hW27 => Yl.mul (m := (i + j) * (totG c)) (n := totG d) rfl rfl rfl (by omega)) ?_
                              refine RH.one 20 (by kernel_rfl) ?_
                              refine RO.fn rfl rfl rfl rfl (Yc.func #[.int .i64 ((((c[0]!).length) + ((d[0]!).length) : Nat) : Int), .int .i64 (((i + j) * (totG c)) * (totG d))] rfl ok16 (args2 rfl rfl)) (c16) ?_
                              rintro _ w19 ⟨rfl, H15⟩
                              have hS5 := Kp.step hS4 H15
                              have hB19 := Bl.step hB18 H15
                              have hK58 := Blk.below hK54 H15
                              have hK59 := Blk.below hK55 H15
                              have hK60 := Blk.below hK56 H15
                              have hK61 := Blk.below hK57 H15
                              have hR12 := hR11.mono (kept_below H15 (by omega))
                              have hz15 := H15.size
                              refine ⟨hS5, ?_⟩
                              refine RH.take 21 rfl (by kernel_rfl) rfl rfl rfl hS5 (fun W29 hW29 => Yl.assign rfl rfl) ?_
                              refine RH.done (by kernel_rfl) ?_
                              change CW _ _ _ _ _ _
                              refine CW.seq ?_
                              refine CW.seq ?_
                              refine CW.region ?_
                              refine RW.yl rfl rfl rfl (Yl.move rfl rfl) ?_
                              refine RW.yl rfl rfl rfl (Yl.neq rfl rfl rfl) ?_
                              refine RW.nil ?_
                              change CW _ _ _ _ _ _
                              refine CW.cond rfl ?_ ?_
                              ·
                                intro hg16
                                have hg17 : decide ((limG ((((c[0]!).length) + ((d[0]!).length) : Nat) : Int) (((i + j) * (totG c)) * (totG d))) = 0) = false := not_t hg16
                                have hq17 := of_decide_eq_false hg17
                                have hk : visR c d i j = ([], (limG (((c[0]!).length + (d[0]!).length : Nat) : Int) (((i + j) * totG c) * totG d))) := visR_lim hv_c hv_d hlen hw (of_decide_eq_false hg17)
                                have hk1 : (visR c d i j).1 = [] := by rw [hk]
                                have hk2 : (visR c d i j).2 = (limG (((c[0]!).length + (d[0]!).length : Nat) : Int) (((i + j) * totG c) * totG d)) := by rw [hk]
                                have hk3 : (visR c d i j).1.length = 0 := by rw [hk]; rfl
                                first
                                | (exfalso; omega)
                                | (
                                  refine CW.seq ?_
                                  rcases Bool.eq_false_or_eq_true (decide (((visR c d i j).2) = (limG ((((c[0]!).length) + ((d[0]!).length) : Nat) : Int) (((i + j) * (totG c)) * (totG d))))) with hg18 | hg18
                                  ·
                                    have hq18 := of_decide_eq_true hg18
                                    first
                                    | (exfalso; omega)
                                    | (
                                      refine CW.region ?_
                                      refine RW.yl rfl rfl rfl (Yl.move rfl rfl) ?_
                                      refine RW.yl rfl rfl rfl (Yl.move rfl rfl) ?_
                                      refine RW.yl rfl rfl rfl (Yl.eqb (Yl.eql rfl rfl rfl) hg18) ?_
                                      refine RW.yl rfl rfl rfl (Yl.move rfl rfl) ?_
                                      refine RW.yl rfl rfl rfl (Yl.loadAgg (cs := [.slice ps1 (((visR c d i j).1).length) cs1]) rfl rfl many24 (Blk.cells hK61)) ?_
                                      refine RW.fn rfl rfl rfl (Yc.func #[.agg #[.slice ps1 (((visR c d i j).1).length) cs1]] rfl ok18 (args1 rfl)) (c18 (hR12.wide (Nat.zero_le _) (by omega))) ?_
                                      rintro _ w20 ⟨rfl, H16⟩
                                      have hB20 := Bl.step hB19 H16
                                      have hK62 := Blk.below hK58 H16
                                      have hK63 := Blk.below hK59 H16
                                      have hK64 := Blk.below hK60 H16
                                      have hK65 := Blk.below hK61 H16
                                      have hR13 := hR12.mono (kept_below H16 (by omega))
                                      have hz16 := H16.size
                                      refine RW.yl rfl rfl rfl (Yl.pickT rfl rfl rfl) ?_
                                      refine RW.yl rfl rfl rfl (Yl.assign rfl rfl) ?_
                                      refine RW.nil ?_
                                      change CW _ _ _ _ _ _
                                      refine CW.ret ?_
                                      change FinQ _ _ _ _ _ _
                                      refine fin1 (.inr rfl) rfl rfl ?_
                                      exact ⟨_, rfl, bval (by first | rfl | exact decide_eq_true (by omega) | exact decide_eq_true (by assumption)), hB20⟩)
                                  ·
                                    have hq18 := of_decide_eq_false hg18
                                    first
                                    | (exfalso; omega)
                                    | (
                                      refine CW.region ?_
                                      refine RW.yl rfl rfl rfl (Yl.move rfl rfl) ?_
                                      refine RW.yl rfl rfl rfl (Yl.move rfl rfl) ?_
                                      refine RW.yl rfl rfl rfl (Yl.eqb (Yl.eql rfl rfl rfl) hg18) ?_
                                      refine RW.yl rfl rfl rfl (Yl.move rfl rfl) ?_
                                      refine RW.skip rfl rfl rfl ?_
                                      refine RW.skip rfl rfl rfl ?_
                                      refine RW.yl rfl rfl rfl (Yl.pickF rfl rfl rfl) ?_
                                      refine RW.yl rfl rfl rfl (Yl.assign rfl rfl) ?_
                                      refine RW.nil ?_
                                      change CW _ _ _ _ _ _
                                      refine CW.ret ?_
                                      change FinQ _ _ _ _ _ _
                                      refine fin1 (.inr rfl) rfl rfl ?_
                                      exact ⟨_, rfl, bval (by first | rfl | exact decide_eq_true (by omega) | exact decide_eq_true (by assumption)), hB19⟩))
                              ·
                                intro hg19
                                have hg20 : decide ((limG ((((c[0]!).length) + ((d[0]!).length) : Nat) : Int) (((i + j) * (totG c)) * (totG d))) = 0) = true := not_f hg19
                                have hq20 := of_decide_eq_true hg20
                                have hk : visR c d i j = ((visT c d i j), 0) := visR_ok hv_c hv_d hlen hw (of_decide_eq_true hg20)
                                have hk1 : (visR c d i j).1 = (visT c d i j) := by rw [hk]
                                have hk2 : (visR c d i j).2 = 0 := by rw [hk]
                                have hv_p : validB ((visR c d i j).1) = true := by rw [hk1]; exact (vis_facts hv_c hv_d hlen (by omega) (by omega) (of_decide_eq_true hg20)).1
                                have hwp := (vis_facts hv_c hv_d hlen (by omega) (by omega) (of_decide_eq_true hg20)).2
                                rw [← hk1] at hwp
                                have hkq : decide ((visR c d i j).1 = (tab (c.length) (((c[0]!).length) + ((d[0]!).length)) (fun x y => if y < (c[0]!).length then (i * (totG d)) * ((c[x]!)[y]!) else (j * (totG c)) * ((d[x]!)[y - (c[0]!).length]!)))) = true := decide_eq_true hk1
                                first
                                | (exfalso; omega)
                                | (
                                  refine CW.skip ?_
                                  change CW _ _ _ _ _ _
                                  refine CW.seq ?_
                                  refine CW.cut (fun E W => ∃ nb12_z1 : Nat, ∃ nb13_z2 : Nat, (Sub [(3, .pointer (some ⟨b1, 0, none⟩)), (4, .pointer (some ⟨b2, 0, none⟩)), (6, .bool false), (9, .pointer (some ⟨b4, 0, none⟩)), (10, .int .i64 ((visR c d i j).2)), (12, .pointer (some ⟨nb12_z1, 0, none⟩)), (13, .pointer (some ⟨nb13_z2, 0, none⟩))] E) ∧ (Below w.heap.size w W) ∧ (Blk W b1 #[.slice p c.length cc] 24) ∧ (Blk W b2 #[.slice p2 d.length cd] 24) ∧ (Blk W b3 #[.int .i64 i, .int .i64 j] 39) ∧ (Blk W b4 #[.slice ps1 (((visR c d i j).1).length) cs1] 24) ∧ (Blk W nb12_z1 #[.int .i64 (i * (totG d))] 3) ∧ (Blk W nb13_z2 #[.int .i64 (j * (totG c))] 3) ∧ (w.heap.size ≤ nb12_z1) ∧ (w.heap.size ≤ nb13_z2) ∧ (b1 ≠ nb12_z1) ∧ (b2 ≠ nb12_z1) ∧ (b3 ≠ nb12_z1) ∧ (b4 ≠ nb12_z1) ∧ (b1 ≠ nb13_z2) ∧ (b2 ≠ nb13_z2) ∧ (b3 ≠ nb13_z2) ∧ (b4 ≠ nb13_z2) ∧ (nb12_z1 ≠ nb13_z2) ∧ (RRows w7.heap.size w8.heap.size W (.slice ps1 (((visR c d i j).1).length) cs1) ((visR c d i j).1)) ∧ (w19.heap.size ≤ W.heap.size)) ?_ ?_
                                  ·
                                    refine CW.draw 12 rfl (Kp []) (by kernel_rfl) ?_
                                    intro w21 H17
                                    have hB21 := Bl.step hB19 H17
                                    have hK66 := Blk.below hK58 H17
                                    have hK67 := Blk.below hK59 H17
                                    have hK68 := Blk.below hK60 H17
                                    have hK69 := Blk.below hK61 H17
                                    have hR14 := hR12.mono (kept_below H17 (by omega))
                                    have hz17 := H17.size
                                    have hS6 := Kp.refl [] w21
                                    refine RH.take 0 rfl (by kernel_rfl) rfl rfl rfl hS6 (fun W30 hW30 => Yl.move rfl rfl) ?_
                                    refine RH.take 1 rfl (by kernel_rfl) rfl rfl rfl hS6 (fun W31 hW31 => Yl.loadAgg (cs := [.slice p2 d.length cd]) rfl rfl many24 (Blk.cells (Kp.blk hW31 hK67 (by simp)))) ?_
                                    refine RH.take 4 rfl (by kernel_rfl) rfl rfl rfl hS6 (fun W33 hW33 => Yl.move rfl rfl) ?_
                                    refine RH.take 5 rfl (by kernel_rfl) rfl rfl rfl hS6 (fun W35 hW35 => Yl.loadAgg (cs := [.slice p c.length cc]) rfl rfl many24 (Blk.cells (Kp.blk hW35 hK66 (by simp)))) ?_
                                    refine RH.three 2 8 9 (by kernel_rfl) ?_ ?_ ?_
                                    ·
                                      refine RO.fn rfl rfl rfl rfl (Yc.func #[.agg #[.slice p2 d.length cd]] rfl ok17 (args1 rfl)) (c17 ((hu.mono (kept_from hB0 hB21 (Nat.le_refl _))).wide (Nat.zero_le _) (by omega)) (validB_chanT hv_d)) ?_
                                      rintro _ w22 ⟨rfl, H18⟩
                                      have hS7 := Kp.step hS6 H18
                                      have hB22 := Bl.step hB21 H18
                                      have hK70 := Blk.below hK66 H18
                                      have hK71 := Blk.below hK67 H18
                                      have hK72 := Blk.below hK68 H18
                                      have hK73 := Blk.below hK69 H18
                                      have hR15 := hR14.mono (kept_below H18 (by omega))
                                      have hz18 := H18.size
                                      refine ⟨hS7, ?_⟩
                                      refine RH.take 3 rfl (by kernel_rfl) rfl rfl rfl hS7 (fun W39 hW39 => Yl.mul (m := i) (n := totG d) rfl rfl rfl (by omega)) ?_
                                      refine RH.three 6 8 9 (by kernel_rfl) ?_ ?_ ?_
                                      ·
                                        refine RO.fn rfl rfl rfl rfl (Yc.func #[.agg #[.slice p c.length cc]] rfl ok17 (args1 rfl)) (c17 ((hv.mono (kept_from hB0 hB22 (Nat.le_refl _))).wide (Nat.zero_le _) (by omega)) (validB_chanT hv_c)) ?_
                                        rintro _ w23 ⟨rfl, H19⟩
                                        have hS8 := Kp.step hS7 H19
                                        have hB23 := Bl.step hB22 H19
                                        have hK74 := Blk.below hK70 H19
                                        have hK75 := Blk.below hK71 H19
                                        have hK76 := Blk.below hK72 H19
                                        have hK77 := Blk.below hK73 H19
                                        have hR16 := hR15.mono (kept_below H19 (by omega))
                                        have hz19 := H19.size
                                        refine ⟨hS8, ?_⟩
                                        refine RH.take 7 rfl (by kernel_rfl) rfl rfl rfl hS8 (fun W43 hW43 => Yl.mul (m := j) (n := totG c) rfl rfl rfl (by omega)) ?_
                                        refine RH.two 8 9 (by kernel_rfl) ?_ ?_
                                        ·
                                          refine RO.newP rfl (cs := #[.int .i64 0]) (T := 3) rfl rfl rfl (Yv.alloc (z := .int .i64 0) rfl zero3) ?_
                                          intro b5 w24 N5
                                          have ne7 := New.ne N5 hK74
                                          have ne8 := New.ne N5 hK75
                                          have ne9 := New.ne N5 hK76
                                          have ne10 := New.ne N5 hK77
                                          have lo_b5 : w.heap.size ≤ b5 := by have := hB23.size; have := N5.num; omega
                                          have hn_b5 := N5.num
                                          have hs_b5 := N5.size
                                          have hS9 := Kp.step hS8 N5.below
                                          have hB24 := Bl.step hB23 N5.below
                                          have hK78 := Blk.below hK74 N5.below
                                          have hK79 := Blk.below hK75 N5.below
                                          have hK80 := Blk.below hK76 N5.below
                                          have hK81 := Blk.below hK77 N5.below
                                          have hR17 := hR16.mono (kept_below N5.below (by omega))
                                          refine ⟨hS9, ?_⟩
                                          refine RH.one 9 (by kernel_rfl) ?_
                                          refine RO.newP rfl (cs := #[.int .i64 0]) (T := 3) rfl rfl rfl (Yv.alloc (z := .int .i64 0) rfl zero3) ?_
                                          intro b6 w25 N6
                                          have ne11 := New.ne N6 hK78
                                          have ne12 := New.ne N6 hK79
                                          have ne13 := New.ne N6 hK80
                                          have ne14 := New.ne N6 hK81
                                          have ne15 := New.ne N6 N5.blk
                                          have lo_b6 : w.heap.size ≤ b6 := by have := hB24.size; have := N6.num; omega
                                          have hn_b6 := N6.num
                                          have hs_b6 := N6.size
                                          have hS10 := Kp.step hS9 N6.below
                                          have hB25 := Bl.step hB24 N6.below
                                          have hK82 := Blk.below hK78 N6.below
                                          have hK83 := Blk.below hK79 N6.below
                                          have hK84 := Blk.below hK80 N6.below
                                          have hK85 := Blk.below hK81 N6.below
                                          have hK86 := Blk.below N5.blk N6.below
                                          have hR18 := hR17.mono (kept_below N6.below (by omega))
                                          refine ⟨hS10, ?_⟩
                                          refine RH.one 10 (by kernel_rfl) ?_
                                          refine RO.sto rfl (v := .int .i64 (i * (totG d))) (j := 0) rfl rfl hK86 (Yu.store rfl rfl rfl rfl rfl sz3 hK86 (by simp)) ?_
                                          intro w26 H20
                                          have hS11 := Kp.sto hS10 H20 (.inr (by omega))
                                          have hB26 := Bl.sto hB25 H20 lo_b5
                                          have hK87 := Blk.sto hK82 H20 ne7
                                          have hK88 := Blk.sto hK83 H20 ne8
                                          have hK89 := Blk.sto hK84 H20 ne9
                                          have hK90 := Blk.sto hK85 H20 ne10
                                          have hK91 := H20.blk
                                          have hK92 := Blk.sto N6.blk H20 ne15.symm
                                          have hR19 := hR18.mono (kept_sto H20 (by omega) (by omega))
                                          have hz20 := H20.size
                                          refine ⟨hS11, ?_⟩
                                          refine RH.one 11 (by kernel_rfl) ?_
                                          refine RO.sto rfl (v := .int .i64 (j * (totG c))) (j := 0) rfl rfl hK92 (Yu.store rfl rfl rfl rfl rfl sz3 hK92 (by simp)) ?_
                                          intro w27 H21
                                          have hS12 := Kp.sto hS11 H21 (.inr (by omega))
                                          have hB27 := Bl.sto hB26 H21 lo_b6
                                          have hK93 := Blk.sto hK87 H21 ne11
                                          have hK94 := Blk.sto hK88 H21 ne12
                                          have hK95 := Blk.sto hK89 H21 ne13
                                          have hK96 := Blk.sto hK90 H21 ne14
                                          have hK97 := Blk.sto hK91 H21 ne15
                                          have hK98 := H21.blk
                                          have hR20 := hR19.mono (kept_sto H21 (by omega) (by omega))
                                          have hz21 := H21.size
                                          refine ⟨hS12, ?_⟩
                                          refine RH.done (by kernel_rfl) ?_
                                          exact ⟨b5, b6, Sub.cons rfl (Sub.cons rfl (Sub.cons rfl (Sub.cons rfl (Sub.cons rfl (Sub.cons rfl (Sub.cons rfl (Sub.nil))))))), hB27, hK93, hK94, hK95, hK96, hK97, hK98, lo_b5, lo_b6, ne7, ne8, ne9, ne10, ne11, ne12, ne13, ne14, ne15, hR20, (by omega)⟩
                                        ·
                                          refine RO.newP rfl (cs := #[.int .i64 0]) (T := 3) rfl rfl rfl (Yv.alloc (z := .int .i64 0) rfl zero3) ?_
                                          intro b7 w28 N7
                                          have ne16 := New.ne N7 hK74
                                          have ne17 := New.ne N7 hK75
                                          have ne18 := New.ne N7 hK76
                                          have ne19 := New.ne N7 hK77
                                          have lo_b7 : w.heap.size ≤ b7 := by have := hB23.size; have := N7.num; omega
                                          have hn_b7 := N7.num
                                          have hs_b7 := N7.size
                                          have hS13 := Kp.step hS8 N7.below
                                          have hB28 := Bl.step hB23 N7.below
                                          have hK99 := Blk.below hK74 N7.below
                                          have hK100 := Blk.below hK75 N7.below
                                          have hK101 := Blk.below hK76 N7.below
                                          have hK102 := Blk.below hK77 N7.below
                                          have hR21 := hR16.mono (kept_below N7.below (by omega))
                                          refine ⟨hS13, ?_⟩
                                          refine RH.one 8 (by kernel_rfl) ?_
                                          refine RO.newP rfl (cs := #[.int .i64 0]) (T := 3) rfl rfl rfl (Yv.alloc (z := .int .i64 0) rfl zero3) ?_
                                          intro b8 w29 N8
                                          have ne20 := New.ne N8 hK99
                                          have ne21 := New.ne N8 hK100
                                          have ne22 := New.ne N8 hK101
                                          have ne23 := New.ne N8 hK102
                                          have ne24 := New.ne N8 N7.blk
                                          have lo_b8 : w.heap.size ≤ b8 := by have := hB28.size; have := N8.num; omega
                                          have hn_b8 := N8.num
                                          have hs_b8 := N8.size
                                          have hS14 := Kp.step hS13 N8.below
                                          have hB29 := Bl.step hB28 N8.below
                                          have hK103 := Blk.below hK99 N8.below
                                          have hK104 := Blk.below hK100 N8.below
                                          have hK105 := Blk.below hK101 N8.below
                                          have hK106 := Blk.below hK102 N8.below
                                          have hK107 := Blk.below N7.blk N8.below
                                          have hR22 := hR21.mono (kept_below N8.below (by omega))
                                          refine ⟨hS14, ?_⟩
                                          refine RH.one 10 (by kernel_rfl) ?_
                                          refine RO.sto rfl (v := .int .i64 (i * (totG d))) (j := 0) rfl rfl N8.blk (Yu.store rfl rfl rfl rfl rfl sz3 N8.blk (by simp)) ?_
                                          intro w30 H22
                                          have hS15 := Kp.sto hS14 H22 (.inr (by omega))
                                          have hB30 := Bl.sto hB29 H22 lo_b8
                                          have hK108 := Blk.sto hK103 H22 ne20
                                          have hK109 := Blk.sto hK104 H22 ne21
                                          have hK110 := Blk.sto hK105 H22 ne22
                                          have hK111 := Blk.sto hK106 H22 ne23
                                          have hK112 := Blk.sto hK107 H22 ne24
                                          have hK113 := H22.blk
                                          have hR23 := hR22.mono (kept_sto H22 (by omega) (by omega))
                                          have hz22 := H22.size
                                          refine ⟨hS15, ?_⟩
                                          refine RH.one 11 (by kernel_rfl) ?_
                                          refine RO.sto rfl (v := .int .i64 (j * (totG c))) (j := 0) rfl rfl hK112 (Yu.store rfl rfl rfl rfl rfl sz3 hK112 (by simp)) ?_
                                          intro w31 H23
                                          have hS16 := Kp.sto hS15 H23 (.inr (by omega))
                                          have hB31 := Bl.sto hB30 H23 lo_b7
                                          have hK114 := Blk.sto hK108 H23 ne16
                                          have hK115 := Blk.sto hK109 H23 ne17
                                          have hK116 := Blk.sto hK110 H23 ne18
                                          have hK117 := Blk.sto hK111 H23 ne19
                                          have hK118 := H23.blk
                                          have hK119 := Blk.sto hK113 H23 ne24.symm
                                          have hR24 := hR23.mono (kept_sto H23 (by omega) (by omega))
                                          have hz23 := H23.size
                                          refine ⟨hS16, ?_⟩
                                          refine RH.done (by kernel_rfl) ?_
                                          exact ⟨b8, b7, Sub.cons rfl (Sub.cons rfl (Sub.cons rfl (Sub.cons rfl (Sub.cons rfl (Sub.cons rfl (Sub.cons rfl (Sub.nil))))))), hB31, hK114, hK115, hK116, hK117, hK119, hK118, lo_b8, lo_b7, ne20, ne21, ne22, ne23, ne16, ne17, ne18, ne19, ne24.symm, hR24, (by omega)⟩
                                      ·
                                        refine RO.newP rfl (cs := #[.int .i64 0]) (T := 3) rfl rfl rfl (Yv.alloc (z := .int .i64 0) rfl zero3) ?_
                                        intro b9 w32 N9
                                        have ne25 := New.ne N9 hK70
                                        have ne26 := New.ne N9 hK71
                                        have ne27 := New.ne N9 hK72
                                        have ne28 := New.ne N9 hK73
                                        have lo_b9 : w.heap.size ≤ b9 := by have := hB22.size; have := N9.num; omega
                                        have hn_b9 := N9.num
                                        have hs_b9 := N9.size
                                        have hS17 := Kp.step hS7 N9.below
                                        have hB32 := Bl.step hB22 N9.below
                                        have hK120 := Blk.below hK70 N9.below
                                        have hK121 := Blk.below hK71 N9.below
                                        have hK122 := Blk.below hK72 N9.below
                                        have hK123 := Blk.below hK73 N9.below
                                        have hR25 := hR15.mono (kept_below N9.below (by omega))
                                        refine ⟨hS17, ?_⟩
                                        refine RH.two 6 9 (by kernel_rfl) ?_ ?_
                                        ·
                                          refine RO.fn rfl rfl rfl rfl (Yc.func #[.agg #[.slice p c.length cc]] rfl ok17 (args1 rfl)) (c17 ((hv.mono (kept_from hB0 hB32 (Nat.le_refl _))).wide (Nat.zero_le _) (by omega)) (validB_chanT hv_c)) ?_
                                          rintro _ w33 ⟨rfl, H24⟩
                                          have hS18 := Kp.step hS17 H24
                                          have hB33 := Bl.step hB32 H24
                                          have hK124 := Blk.below hK120 H24
                                          have hK125 := Blk.below hK121 H24
                                          have hK126 := Blk.below hK122 H24
                                          have hK127 := Blk.below hK123 H24
                                          have hK128 := Blk.below N9.blk H24
                                          have hR26 := hR25.mono (kept_below H24 (by omega))
                                          have hz24 := H24.size
                                          refine ⟨hS18, ?_⟩
                                          refine RH.take 7 rfl (by kernel_rfl) rfl rfl rfl hS18 (fun W50 hW50 => Yl.mul (m := j) (n := totG c) rfl rfl rfl (by omega)) ?_
                                          refine RH.one 9 (by kernel_rfl) ?_
                                          refine RO.newP rfl (cs := #[.int .i64 0]) (T := 3) rfl rfl rfl (Yv.alloc (z := .int .i64 0) rfl zero3) ?_
                                          intro b10 w34 N10
                                          have ne29 := New.ne N10 hK124
                                          have ne30 := New.ne N10 hK125
                                          have ne31 := New.ne N10 hK126
                                          have ne32 := New.ne N10 hK127
                                          have ne33 := New.ne N10 hK128
                                          have lo_b10 : w.heap.size ≤ b10 := by have := hB33.size; have := N10.num; omega
                                          have hn_b10 := N10.num
                                          have hs_b10 := N10.size
                                          have hS19 := Kp.step hS18 N10.below
                                          have hB34 := Bl.step hB33 N10.below
                                          have hK129 := Blk.below hK124 N10.below
                                          have hK130 := Blk.below hK125 N10.below
                                          have hK131 := Blk.below hK126 N10.below
                                          have hK132 := Blk.below hK127 N10.below
                                          have hK133 := Blk.below hK128 N10.below
                                          have hR27 := hR26.mono (kept_below N10.below (by omega))
                                          refine ⟨hS19, ?_⟩
                                          refine RH.one 10 (by kernel_rfl) ?_
                                          refine RO.sto rfl (v := .int .i64 (i * (totG d))) (j := 0) rfl rfl hK133 (Yu.store rfl rfl rfl rfl rfl sz3 hK133 (by simp)) ?_
                                          intro w35 H25
                                          have hS20 := Kp.sto hS19 H25 (.inr (by omega))
                                          have hB35 := Bl.sto hB34 H25 lo_b9
                                          have hK134 := Blk.sto hK129 H25 ne25
                                          have hK135 := Blk.sto hK130 H25 ne26
                                          have hK136 := Blk.sto hK131 H25 ne27
                                          have hK137 := Blk.sto hK132 H25 ne28
                                          have hK138 := H25.blk
                                          have hK139 := Blk.sto N10.blk H25 ne33.symm
                                          have hR28 := hR27.mono (kept_sto H25 (by omega) (by omega))
                                          have hz25 := H25.size
                                          refine ⟨hS20, ?_⟩
                                          refine RH.one 11 (by kernel_rfl) ?_
                                          refine RO.sto rfl (v := .int .i64 (j * (totG c))) (j := 0) rfl rfl hK139 (Yu.store rfl rfl rfl rfl rfl sz3 hK139 (by simp)) ?_
                                          intro w36 H26
                                          have hS21 := Kp.sto hS20 H26 (.inr (by omega))
                                          have hB36 := Bl.sto hB35 H26 lo_b10
                                          have hK140 := Blk.sto hK134 H26 ne29
                                          have hK141 := Blk.sto hK135 H26 ne30
                                          have hK142 := Blk.sto hK136 H26 ne31
                                          have hK143 := Blk.sto hK137 H26 ne32
                                          have hK144 := Blk.sto hK138 H26 ne33
                                          have hK145 := H26.blk
                                          have hR29 := hR28.mono (kept_sto H26 (by omega) (by omega))
                                          have hz26 := H26.size
                                          refine ⟨hS21, ?_⟩
                                          refine RH.done (by kernel_rfl) ?_
                                          exact ⟨b9, b10, Sub.cons rfl (Sub.cons rfl (Sub.cons rfl (Sub.cons rfl (Sub.cons rfl (Sub.cons rfl (Sub.cons rfl (Sub.nil))))))), hB36, hK140, hK141, hK142, hK143, hK144, hK145, lo_b9, lo_b10, ne25, ne26, ne27, ne28, ne29, ne30, ne31, ne32, ne33, hR29, (by omega)⟩
                                        ·
                                          refine RO.newP rfl (cs := #[.int .i64 0]) (T := 3) rfl rfl rfl (Yv.alloc (z := .int .i64 0) rfl zero3) ?_
                                          intro b11 w37 N11
                                          have ne34 := New.ne N11 hK120
                                          have ne35 := New.ne N11 hK121
                                          have ne36 := New.ne N11 hK122
                                          have ne37 := New.ne N11 hK123
                                          have ne38 := New.ne N11 N9.blk
                                          have lo_b11 : w.heap.size ≤ b11 := by have := hB32.size; have := N11.num; omega
                                          have hn_b11 := N11.num
                                          have hs_b11 := N11.size
                                          have hS22 := Kp.step hS17 N11.below
                                          have hB37 := Bl.step hB32 N11.below
                                          have hK146 := Blk.below hK120 N11.below
                                          have hK147 := Blk.below hK121 N11.below
                                          have hK148 := Blk.below hK122 N11.below
                                          have hK149 := Blk.below hK123 N11.below
                                          have hK150 := Blk.below N9.blk N11.below
                                          have hR30 := hR25.mono (kept_below N11.below (by omega))
                                          refine ⟨hS22, ?_⟩
                                          refine RH.one 6 (by kernel_rfl) ?_
                                          refine RO.fn rfl rfl rfl rfl (Yc.func #[.agg #[.slice p c.length cc]] rfl ok17 (args1 rfl)) (c17 ((hv.mono (kept_from hB0 hB37 (Nat.le_refl _))).wide (Nat.zero_le _) (by omega)) (validB_chanT hv_c)) ?_
                                          rintro _ w38 ⟨rfl, H27⟩
                                          have hS23 := Kp.step hS22 H27
                                          have hB38 := Bl.step hB37 H27
                                          have hK151 := Blk.below hK146 H27
                                          have hK152 := Blk.below hK147 H27
                                          have hK153 := Blk.below hK148 H27
                                          have hK154 := Blk.below hK149 H27
                                          have hK155 := Blk.below hK150 H27
                                          have hK156 := Blk.below N11.blk H27
                                          have hR31 := hR30.mono (kept_below H27 (by omega))
                                          have hz27 := H27.size
                                          refine ⟨hS23, ?_⟩
                                          refine RH.take 7 rfl (by kernel_rfl) rfl rfl rfl hS23 (fun W53 hW53 => Yl.mul (m := j) (n := totG c) rfl rfl rfl (by omega)) ?_
                                          refine RH.one 10 (by kernel_rfl) ?_
                                          refine RO.sto rfl (v := .int .i64 (i * (totG d))) (j := 0) rfl rfl hK155 (Yu.store rfl rfl rfl rfl rfl sz3 hK155 (by simp)) ?_
                                          intro w39 H28
                                          have hS24 := Kp.sto hS23 H28 (.inr (by omega))
                                          have hB39 := Bl.sto hB38 H28 lo_b9
                                          have hK157 := Blk.sto hK151 H28 ne25
                                          have hK158 := Blk.sto hK152 H28 ne26
                                          have hK159 := Blk.sto hK153 H28 ne27
                                          have hK160 := Blk.sto hK154 H28 ne28
                                          have hK161 := H28.blk
                                          have hK162 := Blk.sto hK156 H28 ne38.symm
                                          have hR32 := hR31.mono (kept_sto H28 (by omega) (by omega))
                                          have hz28 := H28.size
                                          refine ⟨hS24, ?_⟩
                                          refine RH.one 11 (by kernel_rfl) ?_
                                          refine RO.sto rfl (v := .int .i64 (j * (totG c))) (j := 0) rfl rfl hK162 (Yu.store rfl rfl rfl rfl rfl sz3 hK162 (by simp)) ?_
                                          intro w40 H29
                                          have hS25 := Kp.sto hS24 H29 (.inr (by omega))
                                          have hB40 := Bl.sto hB39 H29 lo_b11
                                          have hK163 := Blk.sto hK157 H29 ne34
                                          have hK164 := Blk.sto hK158 H29 ne35
                                          have hK165 := Blk.sto hK159 H29 ne36
                                          have hK166 := Blk.sto hK160 H29 ne37
                                          have hK167 := Blk.sto hK161 H29 ne38
                                          have hK168 := H29.blk
                                          have hR33 := hR32.mono (kept_sto H29 (by omega) (by omega))
                                          have hz29 := H29.size
                                          refine ⟨hS25, ?_⟩
                                          refine RH.done (by kernel_rfl) ?_
                                          exact ⟨b9, b11, Sub.cons rfl (Sub.cons rfl (Sub.cons rfl (Sub.cons rfl (Sub.cons rfl (Sub.cons rfl (Sub.cons rfl (Sub.nil))))))), hB40, hK163, hK164, hK165, hK166, hK167, hK168, lo_b9, lo_b11, ne25, ne26, ne27, ne28, ne34, ne35, ne36, ne37, ne38, hR33, (by omega)⟩
                                      ·
                                        refine RO.newP rfl (cs := #[.int .i64 0]) (T := 3) rfl rfl rfl (Yv.alloc (z := .int .i64 0) rfl zero3) ?_
                                        intro b12 w41 N12
                                        have ne39 := New.ne N12 hK70
                                        have ne40 := New.ne N12 hK71
                                        have ne41 := New.ne N12 hK72
                                        have ne42 := New.ne N12 hK73
                                        have lo_b12 : w.heap.size ≤ b12 := by have := hB22.size; have := N12.num; omega
                                        have hn_b12 := N12.num
                                        have hs_b12 := N12.size
                                        have hS26 := Kp.step hS7 N12.below
                                        have hB41 := Bl.step hB22 N12.below
                                        have hK169 := Blk.below hK70 N12.below
                                        have hK170 := Blk.below hK71 N12.below
                                        have hK171 := Blk.below hK72 N12.below
                                        have hK172 := Blk.below hK73 N12.below
                                        have hR34 := hR15.mono (kept_below N12.below (by omega))
                                        refine ⟨hS26, ?_⟩
                                        refine RH.two 6 8 (by kernel_rfl) ?_ ?_
                                        ·
                                          refine RO.fn rfl rfl rfl rfl (Yc.func #[.agg #[.slice p c.length cc]] rfl ok17 (args1 rfl)) (c17 ((hv.mono (kept_from hB0 hB41 (Nat.le_refl _))).wide (Nat.zero_le _) (by omega)) (validB_chanT hv_c)) ?_
                                          rintro _ w42 ⟨rfl, H30⟩
                                          have hS27 := Kp.step hS26 H30
                                          have hB42 := Bl.step hB41 H30
                                          have hK173 := Blk.below hK169 H30
                                          have hK174 := Blk.below hK170 H30
                                          have hK175 := Blk.below hK171 H30
                                          have hK176 := Blk.below hK172 H30
                                          have hK177 := Blk.below N12.blk H30
                                          have hR35 := hR34.mono (kept_below H30 (by omega))
                                          have hz30 := H30.size
                                          refine ⟨hS27, ?_⟩
                                          refine RH.take 7 rfl (by kernel_rfl) rfl rfl rfl hS27 (fun W56 hW56 => Yl.mul (m := j) (n := totG c) rfl rfl rfl (by omega)) ?_
                                          refine RH.one 8 (by kernel_rfl) ?_
                                          refine RO.newP rfl (cs := #[.int .i64 0]) (T := 3) rfl rfl rfl (Yv.alloc (z := .int .i64 0) rfl zero3) ?_
                                          intro b13 w43 N13
                                          have ne43 := New.ne N13 hK173
                                          have ne44 := New.ne N13 hK174
                                          have ne45 := New.ne N13 hK175
                                          have ne46 := New.ne N13 hK176
                                          have ne47 := New.ne N13 hK177
                                          have lo_b13 : w.heap.size ≤ b13 := by have := hB42.size; have := N13.num; omega
                                          have hn_b13 := N13.num
                                          have hs_b13 := N13.size
                                          have hS28 := Kp.step hS27 N13.below
                                          have hB43 := Bl.step hB42 N13.below
                                          have hK178 := Blk.below hK173 N13.below
                                          have hK179 := Blk.below hK174 N13.below
                                          have hK180 := Blk.below hK175 N13.below
                                          have hK181 := Blk.below hK176 N13.below
                                          have hK182 := Blk.below hK177 N13.below
                                          have hR36 := hR35.mono (kept_below N13.below (by omega))
                                          refine ⟨hS28, ?_⟩
                                          refine RH.one 10 (by kernel_rfl) ?_
                                          refine RO.sto rfl (v := .int .i64 (i * (totG d))) (j := 0) rfl rfl N13.blk (Yu.store rfl rfl rfl rfl rfl sz3 N13.blk (by simp)) ?_
                                          intro w44 H31
                                          have hS29 := Kp.sto hS28 H31 (.inr (by omega))
                                          have hB44 := Bl.sto hB43 H31 lo_b13
                                          have hK183 := Blk.sto hK178 H31 ne43
                                          have hK184 := Blk.sto hK179 H31 ne44
                                          have hK185 := Blk.sto hK180 H31 ne45
                                          have hK186 := Blk.sto hK181 H31 ne46
                                          have hK187 := Blk.sto hK182 H31 ne47
                                          have hK188 := H31.blk
                                          have hR37 := hR36.mono (kept_sto H31 (by omega) (by omega))
                                          have hz31 := H31.size
                                          refine ⟨hS29, ?_⟩
                                          refine RH.one 11 (by kernel_rfl) ?_
                                          refine RO.sto rfl (v := .int .i64 (j * (totG c))) (j := 0) rfl rfl hK187 (Yu.store rfl rfl rfl rfl rfl sz3 hK187 (by simp)) ?_
                                          intro w45 H32
                                          have hS30 := Kp.sto hS29 H32 (.inr (by omega))
                                          have hB45 := Bl.sto hB44 H32 lo_b12
                                          have hK189 := Blk.sto hK183 H32 ne39
                                          have hK190 := Blk.sto hK184 H32 ne40
                                          have hK191 := Blk.sto hK185 H32 ne41
                                          have hK192 := Blk.sto hK186 H32 ne42
                                          have hK193 := H32.blk
                                          have hK194 := Blk.sto hK188 H32 ne47.symm
                                          have hR38 := hR37.mono (kept_sto H32 (by omega) (by omega))
                                          have hz32 := H32.size
                                          refine ⟨hS30, ?_⟩
                                          refine RH.done (by kernel_rfl) ?_
                                          exact ⟨b13, b12, Sub.cons rfl (Sub.cons rfl (Sub.cons rfl (Sub.cons rfl (Sub.cons rfl (Sub.cons rfl (Sub.cons rfl (Sub.nil))))))), hB45, hK189, hK190, hK191, hK192, hK194, hK193, lo_b13, lo_b12, ne43, ne44, ne45, ne46, ne39, ne40, ne41, ne42, ne47.symm, hR38, (by omega)⟩
                                        ·
                                          refine RO.newP rfl (cs := #[.int .i64 0]) (T := 3) rfl rfl rfl (Yv.alloc (z := .int .i64 0) rfl zero3) ?_
                                          intro b14 w46 N14
                                          have ne48 := New.ne N14 hK169
                                          have ne49 := New.ne N14 hK170
                                          have ne50 := New.ne N14 hK171
                                          have ne51 := New.ne N14 hK172
                                          have ne52 := New.ne N14 N12.blk
                                          have lo_b14 : w.heap.size ≤ b14 := by have := hB41.size; have := N14.num; omega
                                          have hn_b14 := N14.num
                                          have hs_b14 := N14.size
                                          have hS31 := Kp.step hS26 N14.below
                                          have hB46 := Bl.step hB41 N14.below
                                          have hK195 := Blk.below hK169 N14.below
                                          have hK196 := Blk.below hK170 N14.below
                                          have hK197 := Blk.below hK171 N14.below
                                          have hK198 := Blk.below hK172 N14.below
                                          have hK199 := Blk.below N12.blk N14.below
                                          have hR39 := hR34.mono (kept_below N14.below (by omega))
                                          refine ⟨hS31, ?_⟩
                                          refine RH.one 6 (by kernel_rfl) ?_
                                          refine RO.fn rfl rfl rfl rfl (Yc.func #[.agg #[.slice p c.length cc]] rfl ok17 (args1 rfl)) (c17 ((hv.mono (kept_from hB0 hB46 (Nat.le_refl _))).wide (Nat.zero_le _) (by omega)) (validB_chanT hv_c)) ?_
                                          rintro _ w47 ⟨rfl, H33⟩
                                          have hS32 := Kp.step hS31 H33
                                          have hB47 := Bl.step hB46 H33
                                          have hK200 := Blk.below hK195 H33
                                          have hK201 := Blk.below hK196 H33
                                          have hK202 := Blk.below hK197 H33
                                          have hK203 := Blk.below hK198 H33
                                          have hK204 := Blk.below hK199 H33
                                          have hK205 := Blk.below N14.blk H33
                                          have hR40 := hR39.mono (kept_below H33 (by omega))
                                          have hz33 := H33.size
                                          refine ⟨hS32, ?_⟩
                                          refine RH.take 7 rfl (by kernel_rfl) rfl rfl rfl hS32 (fun W59 hW59 => Yl.mul (m := j) (n := totG c) rfl rfl rfl (by omega)) ?_
                                          refine RH.one 10 (by kernel_rfl) ?_
                                          refine RO.sto rfl (v := .int .i64 (i * (totG d))) (j := 0) rfl rfl hK205 (Yu.store rfl rfl rfl rfl rfl sz3 hK205 (by simp)) ?_
                                          intro w48 H34
                                          have hS33 := Kp.sto hS32 H34 (.inr (by omega))
                                          have hB48 := Bl.sto hB47 H34 lo_b14
                                          have hK206 := Blk.sto hK200 H34 ne48
                                          have hK207 := Blk.sto hK201 H34 ne49
                                          have hK208 := Blk.sto hK202 H34 ne50
                                          have hK209 := Blk.sto hK203 H34 ne51
                                          have hK210 := Blk.sto hK204 H34 ne52
                                          have hK211 := H34.blk
                                          have hR41 := hR40.mono (kept_sto H34 (by omega) (by omega))
                                          have hz34 := H34.size
                                          refine ⟨hS33, ?_⟩
                                          refine RH.one 11 (by kernel_rfl) ?_
                                          refine RO.sto rfl (v := .int .i64 (j * (totG c))) (j := 0) rfl rfl hK210 (Yu.store rfl rfl rfl rfl rfl sz3 hK210 (by simp)) ?_
                                          intro w49 H35
                                          have hS34 := Kp.sto hS33 H35 (.inr (by omega))
                                          have hB49 := Bl.sto hB48 H35 lo_b12
                                          have hK212 := Blk.sto hK206 H35 ne39
                                          have hK213 := Blk.sto hK207 H35 ne40
                                          have hK214 := Blk.sto hK208 H35 ne41
                                          have hK215 := Blk.sto hK209 H35 ne42
                                          have hK216 := H35.blk
                                          have hK217 := Blk.sto hK211 H35 ne52.symm
                                          have hR42 := hR41.mono (kept_sto H35 (by omega) (by omega))
                                          have hz35 := H35.size
                                          refine ⟨hS34, ?_⟩
                                          refine RH.done (by kernel_rfl) ?_
                                          exact ⟨b14, b12, Sub.cons rfl (Sub.cons rfl (Sub.cons rfl (Sub.cons rfl (Sub.cons rfl (Sub.cons rfl (Sub.cons rfl (Sub.nil))))))), hB49, hK212, hK213, hK214, hK215, hK217, hK216, lo_b14, lo_b12, ne48, ne49, ne50, ne51, ne39, ne40, ne41, ne42, ne52.symm, hR42, (by omega)⟩
                                    ·
                                      refine RO.newP rfl (cs := #[.int .i64 0]) (T := 3) rfl rfl rfl (Yv.alloc (z := .int .i64 0) rfl zero3) ?_
                                      intro b15 w50 N15
                                      have ne53 := New.ne N15 hK66
                                      have ne54 := New.ne N15 hK67
                                      have ne55 := New.ne N15 hK68
                                      have ne56 := New.ne N15 hK69
                                      have lo_b15 : w.heap.size ≤ b15 := by have := hB21.size; have := N15.num; omega
                                      have hn_b15 := N15.num
                                      have hs_b15 := N15.size
                                      have hS35 := Kp.step hS6 N15.below
                                      have hB50 := Bl.step hB21 N15.below
                                      have hK218 := Blk.below hK66 N15.below
                                      have hK219 := Blk.below hK67 N15.below
                                      have hK220 := Blk.below hK68 N15.below
                                      have hK221 := Blk.below hK69 N15.below
                                      have hR43 := hR14.mono (kept_below N15.below (by omega))
                                      refine ⟨hS35, ?_⟩
                                      refine RH.two 2 9 (by kernel_rfl) ?_ ?_
                                      ·
                                        refine RO.fn rfl rfl rfl rfl (Yc.func #[.agg #[.slice p2 d.length cd]] rfl ok17 (args1 rfl)) (c17 ((hu.mono (kept_from hB0 hB50 (Nat.le_refl _))).wide (Nat.zero_le _) (by omega)) (validB_chanT hv_d)) ?_
                                        rintro _ w51 ⟨rfl, H36⟩
                                        have hS36 := Kp.step hS35 H36
                                        have hB51 := Bl.step hB50 H36
                                        have hK222 := Blk.below hK218 H36
                                        have hK223 := Blk.below hK219 H36
                                        have hK224 := Blk.below hK220 H36
                                        have hK225 := Blk.below hK221 H36
                                        have hK226 := Blk.below N15.blk H36
                                        have hR44 := hR43.mono (kept_below H36 (by omega))
                                        have hz36 := H36.size
                                        refine ⟨hS36, ?_⟩
                                        refine RH.take 3 rfl (by kernel_rfl) rfl rfl rfl hS36 (fun W62 hW62 => Yl.mul (m := i) (n := totG d) rfl rfl rfl (by omega)) ?_
                                        refine RH.two 6 9 (by kernel_rfl) ?_ ?_
                                        ·
                                          refine RO.fn rfl rfl rfl rfl (Yc.func #[.agg #[.slice p c.length cc]] rfl ok17 (args1 rfl)) (c17 ((hv.mono (kept_from hB0 hB51 (Nat.le_refl _))).wide (Nat.zero_le _) (by omega)) (validB_chanT hv_c)) ?_
                                          rintro _ w52 ⟨rfl, H37⟩
                                          have hS37 := Kp.step hS36 H37
                                          have hB52 := Bl.step hB51 H37
                                          have hK227 := Blk.below hK222 H37
                                          have hK228 := Blk.below hK223 H37
                                          have hK229 := Blk.below hK224 H37
                                          have hK230 := Blk.below hK225 H37
                                          have hK231 := Blk.below hK226 H37
                                          have hR45 := hR44.mono (kept_below H37 (by omega))
                                          have hz37 := H37.size
                                          refine ⟨hS37, ?_⟩
                                          refine RH.take 7 rfl (by kernel_rfl) rfl rfl rfl hS37 (fun W65 hW65 => Yl.mul (m := j) (n := totG c) rfl rfl rfl (by omega)) ?_
                                          refine RH.one 9 (by kernel_rfl) ?_
                                          refine RO.newP rfl (cs := #[.int .i64 0]) (T := 3) rfl rfl rfl (Yv.alloc (z := .int .i64 0) rfl zero3) ?_
                                          intro b16 w53 N16
                                          have ne57 := New.ne N16 hK227
                                          have ne58 := New.ne N16 hK228
                                          have ne59 := New.ne N16 hK229
                                          have ne60 := New.ne N16 hK230
                                          have ne61 := New.ne N16 hK231
                                          have lo_b16 : w.heap.size ≤ b16 := by have := hB52.size; have := N16.num; omega
                                          have hn_b16 := N16.num
                                          have hs_b16 := N16.size
                                          have hS38 := Kp.step hS37 N16.below
                                          have hB53 := Bl.step hB52 N16.below
                                          have hK232 := Blk.below hK227 N16.below
                                          have hK233 := Blk.below hK228 N16.below
                                          have hK234 := Blk.below hK229 N16.below
                                          have hK235 := Blk.below hK230 N16.below
                                          have hK236 := Blk.below hK231 N16.below
                                          have hR46 := hR45.mono (kept_below N16.below (by omega))
                                          refine ⟨hS38, ?_⟩
                                          refine RH.one 10 (by kernel_rfl) ?_
                                          refine RO.sto rfl (v := .int .i64 (i * (totG d))) (j := 0) rfl rfl hK236 (Yu.store rfl rfl rfl rfl rfl sz3 hK236 (by simp)) ?_
                                          intro w54 H38
                                          have hS39 := Kp.sto hS38 H38 (.inr (by omega))
                                          have hB54 := Bl.sto hB53 H38 lo_b15
                                          have hK237 := Blk.sto hK232 H38 ne53
                                          have hK238 := Blk.sto hK233 H38 ne54
                                          have hK239 := Blk.sto hK234 H38 ne55
                                          have hK240 := Blk.sto hK235 H38 ne56
                                          have hK241 := H38.blk
                                          have hK242 := Blk.sto N16.blk H38 ne61.symm
                                          have hR47 := hR46.mono (kept_sto H38 (by omega) (by omega))
                                          have hz38 := H38.size
                                          refine ⟨hS39, ?_⟩
                                          refine RH.one 11 (by kernel_rfl) ?_
                                          refine RO.sto rfl (v := .int .i64 (j * (totG c))) (j := 0) rfl rfl hK242 (Yu.store rfl rfl rfl rfl rfl sz3 hK242 (by simp)) ?_
                                          intro w55 H39
                                          have hS40 := Kp.sto hS39 H39 (.inr (by omega))
                                          have hB55 := Bl.sto hB54 H39 lo_b16
                                          have hK243 := Blk.sto hK237 H39 ne57
                                          have hK244 := Blk.sto hK238 H39 ne58
                                          have hK245 := Blk.sto hK239 H39 ne59
                                          have hK246 := Blk.sto hK240 H39 ne60
                                          have hK247 := Blk.sto hK241 H39 ne61
                                          have hK248 := H39.blk
                                          have hR48 := hR47.mono (kept_sto H39 (by omega) (by omega))
                                          have hz39 := H39.size
                                          refine ⟨hS40, ?_⟩
                                          refine RH.done (by kernel_rfl) ?_
                                          exact ⟨b15, b16, Sub.cons rfl (Sub.cons rfl (Sub.cons rfl (Sub.cons rfl (Sub.cons rfl (Sub.cons rfl (Sub.cons rfl (Sub.nil))))))), hB55, hK243, hK244, hK245, hK246, hK247, hK248, lo_b15, lo_b16, ne53, ne54, ne55, ne56, ne57, ne58, ne59, ne60, ne61, hR48, (by omega)⟩
                                        ·
                                          refine RO.newP rfl (cs := #[.int .i64 0]) (T := 3) rfl rfl rfl (Yv.alloc (z := .int .i64 0) rfl zero3) ?_
                                          intro b17 w56 N17
                                          have ne62 := New.ne N17 hK222
                                          have ne63 := New.ne N17 hK223
                                          have ne64 := New.ne N17 hK224
                                          have ne65 := New.ne N17 hK225
                                          have ne66 := New.ne N17 hK226
                                          have lo_b17 : w.heap.size ≤ b17 := by have := hB51.size; have := N17.num; omega
                                          have hn_b17 := N17.num
                                          have hs_b17 := N17.size
                                          have hS41 := Kp.step hS36 N17.below
                                          have hB56 := Bl.step hB51 N17.below
                                          have hK249 := Blk.below hK222 N17.below
                                          have hK250 := Blk.below hK223 N17.below
                                          have hK251 := Blk.below hK224 N17.below
                                          have hK252 := Blk.below hK225 N17.below
                                          have hK253 := Blk.below hK226 N17.below
                                          have hR49 := hR44.mono (kept_below N17.below (by omega))
                                          refine ⟨hS41, ?_⟩
                                          refine RH.one 6 (by kernel_rfl) ?_
                                          refine RO.fn rfl rfl rfl rfl (Yc.func #[.agg #[.slice p c.length cc]] rfl ok17 (args1 rfl)) (c17 ((hv.mono (kept_from hB0 hB56 (Nat.le_refl _))).wide (Nat.zero_le _) (by omega)) (validB_chanT hv_c)) ?_
                                          rintro _ w57 ⟨rfl, H40⟩
                                          have hS42 := Kp.step hS41 H40
                                          have hB57 := Bl.step hB56 H40
                                          have hK254 := Blk.below hK249 H40
                                          have hK255 := Blk.below hK250 H40
                                          have hK256 := Blk.below hK251 H40
                                          have hK257 := Blk.below hK252 H40
                                          have hK258 := Blk.below hK253 H40
                                          have hK259 := Blk.below N17.blk H40
                                          have hR50 := hR49.mono (kept_below H40 (by omega))
                                          have hz40 := H40.size
                                          refine ⟨hS42, ?_⟩
                                          refine RH.take 7 rfl (by kernel_rfl) rfl rfl rfl hS42 (fun W68 hW68 => Yl.mul (m := j) (n := totG c) rfl rfl rfl (by omega)) ?_
                                          refine RH.one 10 (by kernel_rfl) ?_
                                          refine RO.sto rfl (v := .int .i64 (i * (totG d))) (j := 0) rfl rfl hK258 (Yu.store rfl rfl rfl rfl rfl sz3 hK258 (by simp)) ?_
                                          intro w58 H41
                                          have hS43 := Kp.sto hS42 H41 (.inr (by omega))
                                          have hB58 := Bl.sto hB57 H41 lo_b15
                                          have hK260 := Blk.sto hK254 H41 ne53
                                          have hK261 := Blk.sto hK255 H41 ne54
                                          have hK262 := Blk.sto hK256 H41 ne55
                                          have hK263 := Blk.sto hK257 H41 ne56
                                          have hK264 := H41.blk
                                          have hK265 := Blk.sto hK259 H41 ne66.symm
                                          have hR51 := hR50.mono (kept_sto H41 (by omega) (by omega))
                                          have hz41 := H41.size
                                          refine ⟨hS43, ?_⟩
                                          refine RH.one 11 (by kernel_rfl) ?_
                                          refine RO.sto rfl (v := .int .i64 (j * (totG c))) (j := 0) rfl rfl hK265 (Yu.store rfl rfl rfl rfl rfl sz3 hK265 (by simp)) ?_
                                          intro w59 H42
                                          have hS44 := Kp.sto hS43 H42 (.inr (by omega))
                                          have hB59 := Bl.sto hB58 H42 lo_b17
                                          have hK266 := Blk.sto hK260 H42 ne62
                                          have hK267 := Blk.sto hK261 H42 ne63
                                          have hK268 := Blk.sto hK262 H42 ne64
                                          have hK269 := Blk.sto hK263 H42 ne65
                                          have hK270 := Blk.sto hK264 H42 ne66
                                          have hK271 := H42.blk
                                          have hR52 := hR51.mono (kept_sto H42 (by omega) (by omega))
                                          have hz42 := H42.size
                                          refine ⟨hS44, ?_⟩
                                          refine RH.done (by kernel_rfl) ?_
                                          exact ⟨b15, b17, Sub.cons rfl (Sub.cons rfl (Sub.cons rfl (Sub.cons rfl (Sub.cons rfl (Sub.cons rfl (Sub.cons rfl (Sub.nil))))))), hB59, hK266, hK267, hK268, hK269, hK270, hK271, lo_b15, lo_b17, ne53, ne54, ne55, ne56, ne62, ne63, ne64, ne65, ne66, hR52, (by omega)⟩
                                      ·
                                        refine RO.newP rfl (cs := #[.int .i64 0]) (T := 3) rfl rfl rfl (Yv.alloc (z := .int .i64 0) rfl zero3) ?_
                                        intro b18 w60 N18
                                        have ne67 := New.ne N18 hK218
                                        have ne68 := New.ne N18 hK219
                                        have ne69 := New.ne N18 hK220
                                        have ne70 := New.ne N18 hK221
                                        have ne71 := New.ne N18 N15.blk
                                        have lo_b18 : w.heap.size ≤ b18 := by have := hB50.size; have := N18.num; omega
                                        have hn_b18 := N18.num
                                        have hs_b18 := N18.size
                                        have hS45 := Kp.step hS35 N18.below
                                        have hB60 := Bl.step hB50 N18.below
                                        have hK272 := Blk.below hK218 N18.below
                                        have hK273 := Blk.below hK219 N18.below
                                        have hK274 := Blk.below hK220 N18.below
                                        have hK275 := Blk.below hK221 N18.below
                                        have hK276 := Blk.below N15.blk N18.below
                                        have hR53 := hR43.mono (kept_below N18.below (by omega))
                                        refine ⟨hS45, ?_⟩
                                        refine RH.one 2 (by kernel_rfl) ?_
                                        refine RO.fn rfl rfl rfl rfl (Yc.func #[.agg #[.slice p2 d.length cd]] rfl ok17 (args1 rfl)) (c17 ((hu.mono (kept_from hB0 hB60 (Nat.le_refl _))).wide (Nat.zero_le _) (by omega)) (validB_chanT hv_d)) ?_
                                        rintro _ w61 ⟨rfl, H43⟩
                                        have hS46 := Kp.step hS45 H43
                                        have hB61 := Bl.step hB60 H43
                                        have hK277 := Blk.below hK272 H43
                                        have hK278 := Blk.below hK273 H43
                                        have hK279 := Blk.below hK274 H43
                                        have hK280 := Blk.below hK275 H43
                                        have hK281 := Blk.below hK276 H43
                                        have hK282 := Blk.below N18.blk H43
                                        have hR54 := hR53.mono (kept_below H43 (by omega))
                                        have hz43 := H43.size
                                        refine ⟨hS46, ?_⟩
                                        refine RH.take 3 rfl (by kernel_rfl) rfl rfl rfl hS46 (fun W70 hW70 => Yl.mul (m := i) (n := totG d) rfl rfl rfl (by omega)) ?_
                                        refine RH.one 6 (by kernel_rfl) ?_
                                        refine RO.fn rfl rfl rfl rfl (Yc.func #[.agg #[.slice p c.length cc]] rfl ok17 (args1 rfl)) (c17 ((hv.mono (kept_from hB0 hB61 (Nat.le_refl _))).wide (Nat.zero_le _) (by omega)) (validB_chanT hv_c)) ?_
                                        rintro _ w62 ⟨rfl, H44⟩
                                        have hS47 := Kp.step hS46 H44
                                        have hB62 := Bl.step hB61 H44
                                        have hK283 := Blk.below hK277 H44
                                        have hK284 := Blk.below hK278 H44
                                        have hK285 := Blk.below hK279 H44
                                        have hK286 := Blk.below hK280 H44
                                        have hK287 := Blk.below hK281 H44
                                        have hK288 := Blk.below hK282 H44
                                        have hR55 := hR54.mono (kept_below H44 (by omega))
                                        have hz44 := H44.size
                                        refine ⟨hS47, ?_⟩
                                        refine RH.take 7 rfl (by kernel_rfl) rfl rfl rfl hS47 (fun W72 hW72 => Yl.mul (m := j) (n := totG c) rfl rfl rfl (by omega)) ?_
                                        refine RH.one 10 (by kernel_rfl) ?_
                                        refine RO.sto rfl (v := .int .i64 (i * (totG d))) (j := 0) rfl rfl hK287 (Yu.store rfl rfl rfl rfl rfl sz3 hK287 (by simp)) ?_
                                        intro w63 H45
                                        have hS48 := Kp.sto hS47 H45 (.inr (by omega))
                                        have hB63 := Bl.sto hB62 H45 lo_b15
                                        have hK289 := Blk.sto hK283 H45 ne53
                                        have hK290 := Blk.sto hK284 H45 ne54
                                        have hK291 := Blk.sto hK285 H45 ne55
                                        have hK292 := Blk.sto hK286 H45 ne56
                                        have hK293 := H45.blk
                                        have hK294 := Blk.sto hK288 H45 ne71.symm
                                        have hR56 := hR55.mono (kept_sto H45 (by omega) (by omega))
                                        have hz45 := H45.size
                                        refine ⟨hS48, ?_⟩
                                        refine RH.one 11 (by kernel_rfl) ?_
                                        refine RO.sto rfl (v := .int .i64 (j * (totG c))) (j := 0) rfl rfl hK294 (Yu.store rfl rfl rfl rfl rfl sz3 hK294 (by simp)) ?_
                                        intro w64 H46
                                        have hS49 := Kp.sto hS48 H46 (.inr (by omega))
                                        have hB64 := Bl.sto hB63 H46 lo_b18
                                        have hK295 := Blk.sto hK289 H46 ne67
                                        have hK296 := Blk.sto hK290 H46 ne68
                                        have hK297 := Blk.sto hK291 H46 ne69
                                        have hK298 := Blk.sto hK292 H46 ne70
                                        have hK299 := Blk.sto hK293 H46 ne71
                                        have hK300 := H46.blk
                                        have hR57 := hR56.mono (kept_sto H46 (by omega) (by omega))
                                        have hz46 := H46.size
                                        refine ⟨hS49, ?_⟩
                                        refine RH.done (by kernel_rfl) ?_
                                        exact ⟨b15, b18, Sub.cons rfl (Sub.cons rfl (Sub.cons rfl (Sub.cons rfl (Sub.cons rfl (Sub.cons rfl (Sub.cons rfl (Sub.nil))))))), hB64, hK295, hK296, hK297, hK298, hK299, hK300, lo_b15, lo_b18, ne53, ne54, ne55, ne56, ne67, ne68, ne69, ne70, ne71, hR57, (by omega)⟩
                                    ·
                                      refine RO.newP rfl (cs := #[.int .i64 0]) (T := 3) rfl rfl rfl (Yv.alloc (z := .int .i64 0) rfl zero3) ?_
                                      intro b19 w65 N19
                                      have ne72 := New.ne N19 hK66
                                      have ne73 := New.ne N19 hK67
                                      have ne74 := New.ne N19 hK68
                                      have ne75 := New.ne N19 hK69
                                      have lo_b19 : w.heap.size ≤ b19 := by have := hB21.size; have := N19.num; omega
                                      have hn_b19 := N19.num
                                      have hs_b19 := N19.size
                                      have hS50 := Kp.step hS6 N19.below
                                      have hB65 := Bl.step hB21 N19.below
                                      have hK301 := Blk.below hK66 N19.below
                                      have hK302 := Blk.below hK67 N19.below
                                      have hK303 := Blk.below hK68 N19.below
                                      have hK304 := Blk.below hK69 N19.below
                                      have hR58 := hR14.mono (kept_below N19.below (by omega))
                                      refine ⟨hS50, ?_⟩
                                      refine RH.two 2 8 (by kernel_rfl) ?_ ?_
                                      ·
                                        refine RO.fn rfl rfl rfl rfl (Yc.func #[.agg #[.slice p2 d.length cd]] rfl ok17 (args1 rfl)) (c17 ((hu.mono (kept_from hB0 hB65 (Nat.le_refl _))).wide (Nat.zero_le _) (by omega)) (validB_chanT hv_d)) ?_
                                        rintro _ w66 ⟨rfl, H47⟩
                                        have hS51 := Kp.step hS50 H47
                                        have hB66 := Bl.step hB65 H47
                                        have hK305 := Blk.below hK301 H47
                                        have hK306 := Blk.below hK302 H47
                                        have hK307 := Blk.below hK303 H47
                                        have hK308 := Blk.below hK304 H47
                                        have hK309 := Blk.below N19.blk H47
                                        have hR59 := hR58.mono (kept_below H47 (by omega))
                                        have hz47 := H47.size
                                        refine ⟨hS51, ?_⟩
                                        refine RH.take 3 rfl (by kernel_rfl) rfl rfl rfl hS51 (fun W75 hW75 => Yl.mul (m := i) (n := totG d) rfl rfl rfl (by omega)) ?_
                                        refine RH.two 6 8 (by kernel_rfl) ?_ ?_
                                        ·
                                          refine RO.fn rfl rfl rfl rfl (Yc.func #[.agg #[.slice p c.length cc]] rfl ok17 (args1 rfl)) (c17 ((hv.mono (kept_from hB0 hB66 (Nat.le_refl _))).wide (Nat.zero_le _) (by omega)) (validB_chanT hv_c)) ?_
                                          rintro _ w67 ⟨rfl, H48⟩
                                          have hS52 := Kp.step hS51 H48
                                          have hB67 := Bl.step hB66 H48
                                          have hK310 := Blk.below hK305 H48
                                          have hK311 := Blk.below hK306 H48
                                          have hK312 := Blk.below hK307 H48
                                          have hK313 := Blk.below hK308 H48
                                          have hK314 := Blk.below hK309 H48
                                          have hR60 := hR59.mono (kept_below H48 (by omega))
                                          have hz48 := H48.size
                                          refine ⟨hS52, ?_⟩
                                          refine RH.take 7 rfl (by kernel_rfl) rfl rfl rfl hS52 (fun W78 hW78 => Yl.mul (m := j) (n := totG c) rfl rfl rfl (by omega)) ?_
                                          refine RH.one 8 (by kernel_rfl) ?_
                                          refine RO.newP rfl (cs := #[.int .i64 0]) (T := 3) rfl rfl rfl (Yv.alloc (z := .int .i64 0) rfl zero3) ?_
                                          intro b20 w68 N20
                                          have ne76 := New.ne N20 hK310
                                          have ne77 := New.ne N20 hK311
                                          have ne78 := New.ne N20 hK312
                                          have ne79 := New.ne N20 hK313
                                          have ne80 := New.ne N20 hK314
                                          have lo_b20 : w.heap.size ≤ b20 := by have := hB67.size; have := N20.num; omega
                                          have hn_b20 := N20.num
                                          have hs_b20 := N20.size
                                          have hS53 := Kp.step hS52 N20.below
                                          have hB68 := Bl.step hB67 N20.below
                                          have hK315 := Blk.below hK310 N20.below
                                          have hK316 := Blk.below hK311 N20.below
                                          have hK317 := Blk.below hK312 N20.below
                                          have hK318 := Blk.below hK313 N20.below
                                          have hK319 := Blk.below hK314 N20.below
                                          have hR61 := hR60.mono (kept_below N20.below (by omega))
                                          refine ⟨hS53, ?_⟩
                                          refine RH.one 10 (by kernel_rfl) ?_
                                          refine RO.sto rfl (v := .int .i64 (i * (totG d))) (j := 0) rfl rfl N20.blk (Yu.store rfl rfl rfl rfl rfl sz3 N20.blk (by simp)) ?_
                                          intro w69 H49
                                          have hS54 := Kp.sto hS53 H49 (.inr (by omega))
                                          have hB69 := Bl.sto hB68 H49 lo_b20
                                          have hK320 := Blk.sto hK315 H49 ne76
                                          have hK321 := Blk.sto hK316 H49 ne77
                                          have hK322 := Blk.sto hK317 H49 ne78
                                          have hK323 := Blk.sto hK318 H49 ne79
                                          have hK324 := Blk.sto hK319 H49 ne80
                                          have hK325 := H49.blk
                                          have hR62 := hR61.mono (kept_sto H49 (by omega) (by omega))
                                          have hz49 := H49.size
                                          refine ⟨hS54, ?_⟩
                                          refine RH.one 11 (by kernel_rfl) ?_
                                          refine RO.sto rfl (v := .int .i64 (j * (totG c))) (j := 0) rfl rfl hK324 (Yu.store rfl rfl rfl rfl rfl sz3 hK324 (by simp)) ?_
                                          intro w70 H50
                                          have hS55 := Kp.sto hS54 H50 (.inr (by omega))
                                          have hB70 := Bl.sto hB69 H50 lo_b19
                                          have hK326 := Blk.sto hK320 H50 ne72
                                          have hK327 := Blk.sto hK321 H50 ne73
                                          have hK328 := Blk.sto hK322 H50 ne74
                                          have hK329 := Blk.sto hK323 H50 ne75
                                          have hK330 := H50.blk
                                          have hK331 := Blk.sto hK325 H50 ne80.symm
                                          have hR63 := hR62.mono (kept_sto H50 (by omega) (by omega))
                                          have hz50 := H50.size
                                          refine ⟨hS55, ?_⟩
                                          refine RH.done (by kernel_rfl) ?_
                                          exact ⟨b20, b19, Sub.cons rfl (Sub.cons rfl (Sub.cons rfl (Sub.cons rfl (Sub.cons rfl (Sub.cons rfl (Sub.cons rfl (Sub.nil))))))), hB70, hK326, hK327, hK328, hK329, hK331, hK330, lo_b20, lo_b19, ne76, ne77, ne78, ne79, ne72, ne73, ne74, ne75, ne80.symm, hR63, (by omega)⟩
                                        ·
                                          refine RO.newP rfl (cs := #[.int .i64 0]) (T := 3) rfl rfl rfl (Yv.alloc (z := .int .i64 0) rfl zero3) ?_
                                          intro b21 w71 N21
                                          have ne81 := New.ne N21 hK305
                                          have ne82 := New.ne N21 hK306
                                          have ne83 := New.ne N21 hK307
                                          have ne84 := New.ne N21 hK308
                                          have ne85 := New.ne N21 hK309
                                          have lo_b21 : w.heap.size ≤ b21 := by have := hB66.size; have := N21.num; omega
                                          have hn_b21 := N21.num
                                          have hs_b21 := N21.size
                                          have hS56 := Kp.step hS51 N21.below
                                          have hB71 := Bl.step hB66 N21.below
                                          have hK332 := Blk.below hK305 N21.below
                                          have hK333 := Blk.below hK306 N21.below
                                          have hK334 := Blk.below hK307 N21.below
                                          have hK335 := Blk.below hK308 N21.below
                                          have hK336 := Blk.below hK309 N21.below
                                          have hR64 := hR59.mono (kept_below N21.below (by omega))
                                          refine ⟨hS56, ?_⟩
                                          refine RH.one 6 (by kernel_rfl) ?_
                                          refine RO.fn rfl rfl rfl rfl (Yc.func #[.agg #[.slice p c.length cc]] rfl ok17 (args1 rfl)) (c17 ((hv.mono (kept_from hB0 hB71 (Nat.le_refl _))).wide (Nat.zero_le _) (by omega)) (validB_chanT hv_c)) ?_
                                          rintro _ w72 ⟨rfl, H51⟩
                                          have hS57 := Kp.step hS56 H51
                                          have hB72 := Bl.step hB71 H51
                                          have hK337 := Blk.below hK332 H51
                                          have hK338 := Blk.below hK333 H51
                                          have hK339 := Blk.below hK334 H51
                                          have hK340 := Blk.below hK335 H51
                                          have hK341 := Blk.below hK336 H51
                                          have hK342 := Blk.below N21.blk H51
                                          have hR65 := hR64.mono (kept_below H51 (by omega))
                                          have hz51 := H51.size
                                          refine ⟨hS57, ?_⟩
                                          refine RH.take 7 rfl (by kernel_rfl) rfl rfl rfl hS57 (fun W81 hW81 => Yl.mul (m := j) (n := totG c) rfl rfl rfl (by omega)) ?_
                                          refine RH.one 10 (by kernel_rfl) ?_
                                          refine RO.sto rfl (v := .int .i64 (i * (totG d))) (j := 0) rfl rfl hK342 (Yu.store rfl rfl rfl rfl rfl sz3 hK342 (by simp)) ?_
                                          intro w73 H52
                                          have hS58 := Kp.sto hS57 H52 (.inr (by omega))
                                          have hB73 := Bl.sto hB72 H52 lo_b21
                                          have hK343 := Blk.sto hK337 H52 ne81
                                          have hK344 := Blk.sto hK338 H52 ne82
                                          have hK345 := Blk.sto hK339 H52 ne83
                                          have hK346 := Blk.sto hK340 H52 ne84
                                          have hK347 := Blk.sto hK341 H52 ne85
                                          have hK348 := H52.blk
                                          have hR66 := hR65.mono (kept_sto H52 (by omega) (by omega))
                                          have hz52 := H52.size
                                          refine ⟨hS58, ?_⟩
                                          refine RH.one 11 (by kernel_rfl) ?_
                                          refine RO.sto rfl (v := .int .i64 (j * (totG c))) (j := 0) rfl rfl hK347 (Yu.store rfl rfl rfl rfl rfl sz3 hK347 (by simp)) ?_
                                          intro w74 H53
                                          have hS59 := Kp.sto hS58 H53 (.inr (by omega))
                                          have hB74 := Bl.sto hB73 H53 lo_b19
                                          have hK349 := Blk.sto hK343 H53 ne72
                                          have hK350 := Blk.sto hK344 H53 ne73
                                          have hK351 := Blk.sto hK345 H53 ne74
                                          have hK352 := Blk.sto hK346 H53 ne75
                                          have hK353 := H53.blk
                                          have hK354 := Blk.sto hK348 H53 ne85.symm
                                          have hR67 := hR66.mono (kept_sto H53 (by omega) (by omega))
                                          have hz53 := H53.size
                                          refine ⟨hS59, ?_⟩
                                          refine RH.done (by kernel_rfl) ?_
                                          exact ⟨b21, b19, Sub.cons rfl (Sub.cons rfl (Sub.cons rfl (Sub.cons rfl (Sub.cons rfl (Sub.cons rfl (Sub.cons rfl (Sub.nil))))))), hB74, hK349, hK350, hK351, hK352, hK354, hK353, lo_b21, lo_b19, ne81, ne82, ne83, ne84, ne72, ne73, ne74, ne75, ne85.symm, hR67, (by omega)⟩
                                      ·
                                        refine RO.newP rfl (cs := #[.int .i64 0]) (T := 3) rfl rfl rfl (Yv.alloc (z := .int .i64 0) rfl zero3) ?_
                                        intro b22 w75 N22
                                        have ne86 := New.ne N22 hK301
                                        have ne87 := New.ne N22 hK302
                                        have ne88 := New.ne N22 hK303
                                        have ne89 := New.ne N22 hK304
                                        have ne90 := New.ne N22 N19.blk
                                        have lo_b22 : w.heap.size ≤ b22 := by have := hB65.size; have := N22.num; omega
                                        have hn_b22 := N22.num
                                        have hs_b22 := N22.size
                                        have hS60 := Kp.step hS50 N22.below
                                        have hB75 := Bl.step hB65 N22.below
                                        have hK355 := Blk.below hK301 N22.below
                                        have hK356 := Blk.below hK302 N22.below
                                        have hK357 := Blk.below hK303 N22.below
                                        have hK358 := Blk.below hK304 N22.below
                                        have hK359 := Blk.below N19.blk N22.below
                                        have hR68 := hR58.mono (kept_below N22.below (by omega))
                                        refine ⟨hS60, ?_⟩
                                        refine RH.one 2 (by kernel_rfl) ?_
                                        refine RO.fn rfl rfl rfl rfl (Yc.func #[.agg #[.slice p2 d.length cd]] rfl ok17 (args1 rfl)) (c17 ((hu.mono (kept_from hB0 hB75 (Nat.le_refl _))).wide (Nat.zero_le _) (by omega)) (validB_chanT hv_d)) ?_
                                        rintro _ w76 ⟨rfl, H54⟩
                                        have hS61 := Kp.step hS60 H54
                                        have hB76 := Bl.step hB75 H54
                                        have hK360 := Blk.below hK355 H54
                                        have hK361 := Blk.below hK356 H54
                                        have hK362 := Blk.below hK357 H54
                                        have hK363 := Blk.below hK358 H54
                                        have hK364 := Blk.below hK359 H54
                                        have hK365 := Blk.below N22.blk H54
                                        have hR69 := hR68.mono (kept_below H54 (by omega))
                                        have hz54 := H54.size
                                        refine ⟨hS61, ?_⟩
                                        refine RH.take 3 rfl (by kernel_rfl) rfl rfl rfl hS61 (fun W83 hW83 => Yl.mul (m := i) (n := totG d) rfl rfl rfl (by omega)) ?_
                                        refine RH.one 6 (by kernel_rfl) ?_
                                        refine RO.fn rfl rfl rfl rfl (Yc.func #[.agg #[.slice p c.length cc]] rfl ok17 (args1 rfl)) (c17 ((hv.mono (kept_from hB0 hB76 (Nat.le_refl _))).wide (Nat.zero_le _) (by omega)) (validB_chanT hv_c)) ?_
                                        rintro _ w77 ⟨rfl, H55⟩
                                        have hS62 := Kp.step hS61 H55
                                        have hB77 := Bl.step hB76 H55
                                        have hK366 := Blk.below hK360 H55
                                        have hK367 := Blk.below hK361 H55
                                        have hK368 := Blk.below hK362 H55
                                        have hK369 := Blk.below hK363 H55
                                        have hK370 := Blk.below hK364 H55
                                        have hK371 := Blk.below hK365 H55
                                        have hR70 := hR69.mono (kept_below H55 (by omega))
                                        have hz55 := H55.size
                                        refine ⟨hS62, ?_⟩
                                        refine RH.take 7 rfl (by kernel_rfl) rfl rfl rfl hS62 (fun W85 hW85 => Yl.mul (m := j) (n := totG c) rfl rfl rfl (by omega)) ?_
                                        refine RH.one 10 (by kernel_rfl) ?_
                                        refine RO.sto rfl (v := .int .i64 (i * (totG d))) (j := 0) rfl rfl hK371 (Yu.store rfl rfl rfl rfl rfl sz3 hK371 (by simp)) ?_
                                        intro w78 H56
                                        have hS63 := Kp.sto hS62 H56 (.inr (by omega))
                                        have hB78 := Bl.sto hB77 H56 lo_b22
                                        have hK372 := Blk.sto hK366 H56 ne86
                                        have hK373 := Blk.sto hK367 H56 ne87
                                        have hK374 := Blk.sto hK368 H56 ne88
                                        have hK375 := Blk.sto hK369 H56 ne89
                                        have hK376 := Blk.sto hK370 H56 ne90
                                        have hK377 := H56.blk
                                        have hR71 := hR70.mono (kept_sto H56 (by omega) (by omega))
                                        have hz56 := H56.size
                                        refine ⟨hS63, ?_⟩
                                        refine RH.one 11 (by kernel_rfl) ?_
                                        refine RO.sto rfl (v := .int .i64 (j * (totG c))) (j := 0) rfl rfl hK376 (Yu.store rfl rfl rfl rfl rfl sz3 hK376 (by simp)) ?_
                                        intro w79 H57
                                        have hS64 := Kp.sto hS63 H57 (.inr (by omega))
                                        have hB79 := Bl.sto hB78 H57 lo_b19
                                        have hK378 := Blk.sto hK372 H57 ne72
                                        have hK379 := Blk.sto hK373 H57 ne73
                                        have hK380 := Blk.sto hK374 H57 ne74
                                        have hK381 := Blk.sto hK375 H57 ne75
                                        have hK382 := H57.blk
                                        have hK383 := Blk.sto hK377 H57 ne90.symm
                                        have hR72 := hR71.mono (kept_sto H57 (by omega) (by omega))
                                        have hz57 := H57.size
                                        refine ⟨hS64, ?_⟩
                                        refine RH.done (by kernel_rfl) ?_
                                        exact ⟨b22, b19, Sub.cons rfl (Sub.cons rfl (Sub.cons rfl (Sub.cons rfl (Sub.cons rfl (Sub.cons rfl (Sub.cons rfl (Sub.nil))))))), hB79, hK378, hK379, hK380, hK381, hK383, hK382, lo_b22, lo_b19, ne86, ne87, ne88, ne89, ne72, ne73, ne74, ne75, ne90.symm, hR72, (by omega)⟩
                                  ·
                                    rintro E1 w80 ⟨nb12_z1, nb13_z2, hsub1, hB80, hK384, hK385, hK386, hK387, hK388, hK389, lo1, lo2, ne91, ne92, ne93, ne94, ne95, ne96, ne97, ne98, ne99, hR73, hz58⟩
                                    change CW _ _ _ _ _ _
                                    refine CW.weak ?_ hsub1
                                    refine CW.seq ?_
                                    refine CW.region ?_
                                    refine RW.yl rfl rfl rfl (Yl.fieldAddr rfl rfl Try.underlying24 rfl sz22) ?_
                                    refine RW.yl rfl rfl rfl (Yl.load rfl rfl one22 (Blk.cell hK384 rfl)) ?_
                                    obtain ⟨bx3, ox3, px3, cx3, hp3, hl4, hh3, hc3, hx3, hn3⟩ := (hv.mono (kept_from hB0 hB80 (Nat.le_refl _))).at 0 (by omega)
                                    refine RW.yl rfl rfl rfl (Yl.indexAddr1 (k := 0) rfl rfl rfl Try.underlying22 sz31 hp3 rfl (by omega)) ?_
                                    refine RW.yl rfl rfl rfl (Yl.load rfl rfl one31 hc3) ?_
                                    refine RW.yl rfl rfl rfl (Yl.len rfl rfl Try.underlying31) ?_
                                    refine RW.newP (cs := #[.int .i64 0]) (T := 3) rfl rfl rfl (Yv.alloc (z := .int .i64 0) rfl zero3) ?_
                                    intro b23 w81 N23
                                    have ne100 := New.ne N23 hK384
                                    have ne101 := New.ne N23 hK385
                                    have ne102 := New.ne N23 hK386
                                    have ne103 := New.ne N23 hK387
                                    have ne104 := New.ne N23 hK388
                                    have ne105 := New.ne N23 hK389
                                    have lo_b23 : w.heap.size ≤ b23 := by have := hB80.size; have := N23.num; omega
                                    have hn_b23 := N23.num
                                    have hs_b23 := N23.size
                                    have hB81 := Bl.step hB80 N23.below
                                    have hK390 := Blk.below hK384 N23.below
                                    have hK391 := Blk.below hK385 N23.below
                                    have hK392 := Blk.below hK386 N23.below
                                    have hK393 := Blk.below hK387 N23.below
                                    have hK394 := Blk.below hK388 N23.below
                                    have hK395 := Blk.below hK389 N23.below
                                    have hR74 := hR73.mono (kept_below N23.below (by omega))
                                    refine RW.sto (v := .int .i64 (((c[0]!).length : Nat) : Int)) (i := 0) rfl rfl N23.blk (Yu.store rfl rfl rfl rfl rfl sz3 N23.blk (by simp)) ?_
                                    intro w82 H58
                                    have hB82 := Bl.sto hB81 H58 lo_b23
                                    have hK396 := Blk.sto hK390 H58 ne100
                                    have hK397 := Blk.sto hK391 H58 ne101
                                    have hK398 := Blk.sto hK392 H58 ne102
                                    have hK399 := Blk.sto hK393 H58 ne103
                                    have hK400 := Blk.sto hK394 H58 ne104
                                    have hK401 := Blk.sto hK395 H58 ne105
                                    have hK402 := H58.blk
                                    have hR75 := hR74.mono (kept_sto H58 (by omega) (by omega))
                                    have hz59 := H58.size
                                    refine RW.nil ?_
                                    change CW _ _ _ _ _ _
                                    refine CW.seq ?_
                                    refine CW.cut (fun E W => ∃ nb15_z3 : Nat, ∃ pz1 : Option Addr, ∃ cz1 : Nat, (Sub [(3, .pointer (some ⟨b1, 0, none⟩)), (4, .pointer (some ⟨b2, 0, none⟩)), (6, .bool false), (9, .pointer (some ⟨b4, 0, none⟩)), (10, .int .i64 ((visR c d i j).2)), (12, .pointer (some ⟨nb12_z1, 0, none⟩)), (13, .pointer (some ⟨nb13_z2, 0, none⟩)), (15, .pointer (some ⟨nb15_z3, 0, none⟩))] E) ∧ (Below w.heap.size w W) ∧ (Blk W b1 #[.slice p c.length cc] 24) ∧ (Blk W b2 #[.slice p2 d.length cd] 24) ∧ (Blk W b3 #[.int .i64 i, .int .i64 j] 39) ∧ (Blk W b4 #[.slice ps1 (((visR c d i j).1).length) cs1] 24) ∧ (Blk W nb12_z1 #[.int .i64 (i * (totG d))] 3) ∧ (Blk W nb13_z2 #[.int .i64 (j * (totG c))] 3) ∧ (Blk W b23 #[.int .i64 (((c[0]!).length : Nat) : Int)] 3) ∧ (Blk W nb15_z3 #[.slice pz1 ((tab (c.length) (((c[0]!).length) + ((d[0]!).length)) (fun x y => if y < (c[0]!).length then (i * (totG d)) * ((c[x]!)[y]!) else (j * (totG c)) * ((d[x]!)[y - (c[0]!).length]!))).length) cz1] 24) ∧ (w.heap.size ≤ nb15_z3) ∧ (b1 ≠ nb15_z3) ∧ (b2 ≠ nb15_z3) ∧ (b3 ≠ nb15_z3) ∧ (b4 ≠ nb15_z3) ∧ (nb12_z1 ≠ nb15_z3) ∧ (nb13_z2 ≠ nb15_z3) ∧ (b23 ≠ nb15_z3) ∧ (RRows w7.heap.size w8.heap.size W (.slice ps1 (((visR c d i j).1).length) cs1) ((visR c d i j).1)) ∧ (RRows w.heap.size W.heap.size W (.slice pz1 ((tab (c.length) (((c[0]!).length) + ((d[0]!).length)) (fun x y => if y < (c[0]!).length then (i * (totG d)) * ((c[x]!)[y]!) else (j * (totG c)) * ((d[x]!)[y - (c[0]!).length]!))).length) cz1) (tab (c.length) (((c[0]!).length) + ((d[0]!).length)) (fun x y => if y < (c[0]!).length then (i * (totG d)) * ((c[x]!)[y]!) else (j * (totG c)) * ((d[x]!)[y - (c[0]!).length]!)))) ∧ (w82.heap.size ≤ W.heap.size)) ?_ ?_
                                    ·
                                      refine CW.draw 14 rfl (Kp []) (by kernel_rfl) ?_
                                      intro w83 H59
                                      have hB83 := Bl.step hB82 H59
                                      have hK403 := Blk.below hK396 H59
                                      have hK404 := Blk.below hK397 H59
                                      have hK405 := Blk.below hK398 H59
                                      have hK406 := Blk.below hK399 H59
                                      have hK407 := Blk.below hK400 H59
                                      have hK408 := Blk.below hK401 H59
                                      have hK409 := Blk.below hK402 H59
                                      have hR76 := hR75.mono (kept_below H59 (by omega))
                                      have hz60 := H59.size
                                      have hS65 := Kp.refl [] w83
                                      refine RH.take 0 rfl (by kernel_rfl) rfl rfl rfl hS65 (fun W86 hW86 => Yl.fieldAddr rfl rfl Try.underlying24 rfl sz22) ?_
                                      refine RH.take 1 rfl (by kernel_rfl) rfl rfl rfl hS65 (fun W87 hW87 => Yl.load rfl rfl one22 (Blk.cell (Kp.blk hW87 hK403 (by simp)) rfl)) ?_
                                      refine RH.take 2 rfl (by kernel_rfl) rfl rfl rfl hS65 (fun W88 hW88 => Yl.len rfl rfl Try.underlying22) ?_
                                      refine RH.take 3 rfl (by kernel_rfl) rfl rfl rfl hS65 (fun W89 hW89 => Yl.load rfl rfl one3 (Blk.cell (Kp.blk hW89 hK409 (by simp)) rfl)) ?_
                                      refine RH.take 4 rfl (by kernel_rfl) rfl rfl rfl hS65 (fun W90 hW90 => Yl.fieldAddr rfl rfl Try.underlying24 rfl sz22) ?_
                                      refine RH.take 5 rfl (by kernel_rfl) rfl rfl rfl hS65 (fun W91 hW91 => Yl.load rfl rfl one22 (Blk.cell (Kp.blk hW91 hK404 (by simp)) rfl)) ?_
                                      obtain ⟨bx4, ox4, px4, cx4, hp4, hl5, hh4, hc4, hx4, hn4⟩ := (hu.mono (kept_from hB0 hB83 (Nat.le_refl _))).at 0 (by omega)
                                      refine RH.take 6 rfl (by kernel_rfl) rfl rfl rfl hS65 (fun W92 hW92 => Yl.indexAddr1 (k := 0) rfl rfl rfl Try.underlying22 sz31 hp4 rfl (by omega)) ?_
                                      refine RH.take 7 rfl (by kernel_rfl) rfl rfl rfl hS65 (fun W93 hW93 => Yl.load rfl rfl one31 (Kp.cell hW93 hc4 (by simp))) ?_
                                      refine RH.take 8 rfl (by kernel_rfl) rfl rfl rfl hS65 (fun W94 hW94 => Yl.len rfl rfl Try.underlying31) ?_
                                      refine RH.take 9 rfl (by kernel_rfl) rfl rfl rfl hS65 (fun W95 hW95 => Yl.addN (a := (c[0]!).length) (b := (d[0]!).length) rfl rfl rfl (by omega)) ?_
                                      refine RH.take 10 rfl (by kernel_rfl) rfl rfl rfl hS65 (fun W96 hW96 => Yl.func #[.pointer (some ⟨b23, 0, none⟩), .pointer (some ⟨nb12_z1, 0, none⟩), .pointer (some ⟨b1, 0, none⟩), .pointer (some ⟨nb13_z2, 0, none⟩), .pointer (some ⟨b2, 0, none⟩)] rfl rfl (args5 rfl rfl rfl rfl rfl)) ?_
                                      refine RH.two 11 12 (by kernel_rfl) ?_ ?_
                                      ·
                                        refine RO.fn rfl rfl rfl rfl (Yc.func #[.int .i64 ((c.length : Nat) : Int), .int .i64 ((((c[0]!).length) + ((d[0]!).length) : Nat) : Int), .func (.func 34) #[] #[.pointer (some ⟨b23, 0, none⟩), .pointer (some ⟨nb12_z1, 0, none⟩), .pointer (some ⟨b1, 0, none⟩), .pointer (some ⟨nb13_z2, 0, none⟩), .pointer (some ⟨b2, 0, none⟩)]] rfl ok27 (args3 rfl rfl rfl)) (c27_34 (f := fun x y => if y < (c[0]!).length then (i * (totG d)) * ((c[x]!)[y]!) else (j * (totG c)) * ((d[x]!)[y - (c[0]!).length]!)) (fun hx hy hb => c34 (Blk.below hK409 hb) (Blk.below hK407 hb) (Blk.below hK403 hb) ((((hv.mono (kept_from hB0 hB83 (Nat.le_refl _))).wide (Nat.zero_le _) (by omega)).mono (kept_below hb (Nat.le_refl _))).wide (Nat.zero_le _) hb.size) (Blk.below hK408 hb) (Blk.below hK404 hb) ((((hu.mono (kept_from hB0 hB83 (Nat.le_refl _))).wide (Nat.zero_le _) (by omega)).mono (kept_below hb (Nat.le_refl _))).wide (Nat.zero_le _) hb.size) (validB_chanT hv_c) (validB_chanT hv_d) (by omega) (by omega) rfl hy (by omega) (by omega)) (by omega) (by omega)) ?_
                                        rintro _ w84 ⟨s2, rfl, hR77, H60⟩
                                        obtain ⟨ps2, cs2, rfl, hl6⟩ := hR77.form
                                        have hS66 := Kp.step hS65 H60
                                        have hB84 := Bl.step hB83 H60
                                        have hK410 := Blk.below hK403 H60
                                        have hK411 := Blk.below hK404 H60
                                        have hK412 := Blk.below hK405 H60
                                        have hK413 := Blk.below hK406 H60
                                        have hK414 := Blk.below hK407 H60
                                        have hK415 := Blk.below hK408 H60
                                        have hK416 := Blk.below hK409 H60
                                        have hR78 := hR76.mono (kept_below H60 (by omega))
                                        have hz61 := H60.size
                                        refine ⟨hS66, ?_⟩
                                        refine RH.one 12 (by kernel_rfl) ?_
                                        refine RO.newP rfl (cs := #[.slice none 0 0]) (T := 24) rfl rfl rfl (Yv.alloc (z := .agg #[.slice none 0 0]) rfl zero24) ?_
                                        intro b24 w85 N24
                                        have ne106 := New.ne N24 hK410
                                        have ne107 := New.ne N24 hK411
                                        have ne108 := New.ne N24 hK412
                                        have ne109 := New.ne N24 hK413
                                        have ne110 := New.ne N24 hK414
                                        have ne111 := New.ne N24 hK415
                                        have ne112 := New.ne N24 hK416
                                        have lo_b24 : w.heap.size ≤ b24 := by have := hB84.size; have := N24.num; omega
                                        have hn_b24 := N24.num
                                        have hs_b24 := N24.size
                                        have hS67 := Kp.step hS66 N24.below
                                        have hB85 := Bl.step hB84 N24.below
                                        have hK417 := Blk.below hK410 N24.below
                                        have hK418 := Blk.below hK411 N24.below
                                        have hK419 := Blk.below hK412 N24.below
                                        have hK420 := Blk.below hK413 N24.below
                                        have hK421 := Blk.below hK414 N24.below
                                        have hK422 := Blk.below hK415 N24.below
                                        have hK423 := Blk.below hK416 N24.below
                                        have hR79 := hR78.mono (kept_below N24.below (by omega))
                                        have hR80 := hR77.mono (kept_below N24.below (by omega))
                                        refine ⟨hS67, ?_⟩
                                        refine RH.one 13 (by kernel_rfl) ?_
                                        refine RO.stoAll rfl (cs' := #[.slice ps2 ((tab (c.length) (((c[0]!).length) + ((d[0]!).length)) (fun x y => if y < (c[0]!).length then (i * (totG d)) * ((c[x]!)[y]!) else (j * (totG c)) * ((d[x]!)[y - (c[0]!).length]!))).length) cs2]) rfl rfl N24.blk (Yu.storeAll rfl rfl rfl sz24 N24.blk rfl (by simp [Value.oneCell'])) ?_
                                        intro w86 H61
                                        have hS68 := Kp.sto hS67 H61 (.inr (by omega))
                                        have hB86 := Bl.sto hB85 H61 lo_b24
                                        have hK424 := Blk.sto hK417 H61 ne106
                                        have hK425 := Blk.sto hK418 H61 ne107
                                        have hK426 := Blk.sto hK419 H61 ne108
                                        have hK427 := Blk.sto hK420 H61 ne109
                                        have hK428 := Blk.sto hK421 H61 ne110
                                        have hK429 := Blk.sto hK422 H61 ne111
                                        have hK430 := Blk.sto hK423 H61 ne112
                                        have hK431 := H61.blk
                                        have hR81 := hR79.mono (kept_sto H61 (by omega) (by omega))
                                        have hR82 := hR80.mono (kept_sto H61 (by omega) (by omega))
                                        have hz62 := H61.size
                                        refine ⟨hS68, ?_⟩
                                        refine RH.done (by kernel_rfl) ?_
                                        exact ⟨b24, ps2, cs2, Sub.cons rfl (Sub.cons rfl (Sub.cons rfl (Sub.cons rfl (Sub.cons rfl (Sub.cons rfl (Sub.cons rfl (Sub.cons rfl (Sub.nil)))))))), hB86, hK424, hK425, hK426, hK427, hK428, hK429, hK430, hK431, lo_b24, ne106, ne107, ne108, ne109, ne110, ne111, ne112, hR81, (hR82.wide (by omega) (by omega)), (by omega)⟩
                                      ·
                                        refine RO.newP rfl (cs := #[.slice none 0 0]) (T := 24) rfl rfl rfl (Yv.alloc (z := .agg #[.slice none 0 0]) rfl zero24) ?_
                                        intro b25 w87 N25
                                        have ne113 := New.ne N25 hK403
                                        have ne114 := New.ne N25 hK404
                                        have ne115 := New.ne N25 hK405
                                        have ne116 := New.ne N25 hK406
                                        have ne117 := New.ne N25 hK407
                                        have ne118 := New.ne N25 hK408
                                        have ne119 := New.ne N25 hK409
                                        have lo_b25 : w.heap.size ≤ b25 := by have := hB83.size; have := N25.num; omega
                                        have hn_b25 := N25.num
                                        have hs_b25 := N25.size
                                        have hS69 := Kp.step hS65 N25.below
                                        have hB87 := Bl.step hB83 N25.below
                                        have hK432 := Blk.below hK403 N25.below
                                        have hK433 := Blk.below hK404 N25.below
                                        have hK434 := Blk.below hK405 N25.below
                                        have hK435 := Blk.below hK406 N25.below
                                        have hK436 := Blk.below hK407 N25.below
                                        have hK437 := Blk.below hK408 N25.below
                                        have hK438 := Blk.below hK409 N25.below
                                        have hR83 := hR76.mono (kept_below N25.below (by omega))
                                        refine ⟨hS69, ?_⟩
                                        refine RH.one 11 (by kernel_rfl) ?_
                                        refine RO.fn rfl rfl rfl rfl (Yc.func #[.int .i64 ((c.length : Nat) : Int), .int .i64 ((((c[0]!).length) + ((d[0]!).length) : Nat) : Int), .func (.func 34) #[] #[.pointer (some ⟨b23, 0, none⟩), .pointer (some ⟨nb12_z1, 0, none⟩), .pointer (some ⟨b1, 0, none⟩), .pointer (some ⟨nb13_z2, 0, none⟩), .pointer (some ⟨b2, 0, none⟩)]] rfl ok27 (args3 rfl rfl rfl)) (c27_34 (f := fun x y => if y < (c[0]!).length then (i * (totG d)) * ((c[x]!)[y]!) else (j * (totG c)) * ((d[x]!)[y - (c[0]!).length]!)) (fun hx hy hb => c34 (Blk.below hK438 hb) (Blk.below hK436 hb) (Blk.below hK432 hb) ((((hv.mono (kept_from hB0 hB87 (Nat.le_refl _))).wide (Nat.zero_le _) (by omega)).mono (kept_below hb (Nat.le_refl _))).wide (Nat.zero_le _) hb.size) (Blk.below hK437 hb) (Blk.below hK433 hb) ((((hu.mono (kept_from hB0 hB87 (Nat.le_refl _))).wide (Nat.zero_le _) (by omega)).mono (kept_below hb (Nat.le_refl _))).wide (Nat.zero_le _) hb.size) (validB_chanT hv_c) (validB_chanT hv_d) (by omega) (by omega) rfl hy (by omega) (by omega)) (by omega) (by omega)) ?_
                                        rintro _ w88 ⟨s3, rfl, hR84, H62⟩
                                        obtain ⟨ps3, cs3, rfl, hl7⟩ := hR84.form
                                        have hS70 := Kp.step hS69 H62
                                        have hB88 := Bl.step hB87 H62
                                        have hK439 := Blk.below hK432 H62
                                        have hK440 := Blk.below hK433 H62
                                        have hK441 := Blk.below hK434 H62
                                        have hK442 := Blk.below hK435 H62
                                        have hK443 := Blk.below hK436 H62
                                        have hK444 := Blk.below hK437 H62
                                        have hK445 := Blk.below hK438 H62
                                        have hK446 := Blk.below N25.blk H62
                                        have hR85 := hR83.mono (kept_below H62 (by omega))
                                        have hz63 := H62.size
                                        refine ⟨hS70, ?_⟩
                                        refine RH.one 13 (by kernel_rfl) ?_
                                        refine RO.stoAll rfl (cs' := #[.slice ps3 ((tab (c.length) (((c[0]!).length) + ((d[0]!).length)) (fun x y => if y < (c[0]!).length then (i * (totG d)) * ((c[x]!)[y]!) else (j * (totG c)) * ((d[x]!)[y - (c[0]!).length]!))).length) cs3]) rfl rfl hK446 (Yu.storeAll rfl rfl rfl sz24 hK446 rfl (by simp [Value.oneCell'])) ?_
                                        intro w89 H63
                                        have hS71 := Kp.sto hS70 H63 (.inr (by omega))
                                        have hB89 := Bl.sto hB88 H63 lo_b25
                                        have hK447 := Blk.sto hK439 H63 ne113
                                        have hK448 := Blk.sto hK440 H63 ne114
                                        have hK449 := Blk.sto hK441 H63 ne115
                                        have hK450 := Blk.sto hK442 H63 ne116
                                        have hK451 := Blk.sto hK443 H63 ne117
                                        have hK452 := Blk.sto hK444 H63 ne118
                                        have hK453 := Blk.sto hK445 H63 ne119
                                        have hK454 := H63.blk
                                        have hR86 := hR85.mono (kept_sto H63 (by omega) (by omega))
                                        have hR87 := hR84.mono (kept_sto H63 (by omega) (by omega))
                                        have hz64 := H63.size
                                        refine ⟨hS71, ?_⟩
                                        refine RH.done (by kernel_rfl) ?_
                                        exact ⟨b25, ps3, cs3, Sub.cons rfl (Sub.cons rfl (Sub.cons rfl (Sub.cons rfl (Sub.cons rfl (Sub.cons rfl (Sub.cons rfl (Sub.cons rfl (Sub.nil)))))))), hB89, hK447, hK448, hK449, hK450, hK451, hK452, hK453, hK454, lo_b25, ne113, ne114, ne115, ne116, ne117, ne118, ne119, hR86, (hR87.wide (by omega) (by omega)), (by omega)⟩
                                    ·
                                      rintro E2 w90 ⟨nb15_z3, pz1, cz1, hsub2, hB90, hK455, hK456, hK457, hK458, hK459, hK460, hK461, hK462, lo3, ne120, ne121, ne122, ne123, ne124, ne125, ne126, hR88, hR89, hz65⟩
                                      change CW _ _ _ _ _ _
                                      refine CW.weak ?_ hsub2
                                      refine CW.seq ?_
                                      rcases Bool.eq_false_or_eq_true (decide (((visR c d i j).2) = 0)) with hg21 | hg21
                                      ·
                                        have hq21 := of_decide_eq_true hg21
                                        first
                                        | (exfalso; omega)
                                        | (
                                          refine CW.draw 22 rfl (Kp []) (by kernel_rfl) ?_
                                          intro w91 H64
                                          have hB91 := Bl.step hB90 H64
                                          have hK463 := Blk.below hK455 H64
                                          have hK464 := Blk.below hK456 H64
                                          have hK465 := Blk.below hK457 H64
                                          have hK466 := Blk.below hK458 H64
                                          have hK467 := Blk.below hK459 H64
                                          have hK468 := Blk.below hK460 H64
                                          have hK469 := Blk.below hK461 H64
                                          have hK470 := Blk.below hK462 H64
                                          have hR90 := hR88.mono (kept_below H64 (by omega))
                                          have hR91 := hR89.mono (kept_below H64 (by omega))
                                          have hz66 := H64.size
                                          have hS72 := Kp.refl [] w91
                                          refine RH.take 0 rfl (by kernel_rfl) rfl rfl rfl hS72 (fun W101 hW101 => Yl.move rfl rfl) ?_
                                          refine RH.take 1 rfl (by kernel_rfl) rfl rfl rfl hS72 (fun W102 hW102 => Yl.eqb (Yl.eql rfl rfl rfl) hg21) ?_
                                          refine RH.take 2 rfl (by kernel_rfl) rfl rfl rfl hS72 (fun W103 hW103 => Yl.move rfl rfl) ?_
                                          refine RH.take 3 rfl (by kernel_rfl) rfl rfl rfl hS72 (fun W104 hW104 => Yl.loadAgg (cs := [.slice ps1 (((visR c d i j).1).length) cs1]) rfl rfl many24 (Blk.cells (Kp.blk hW104 hK466 (by simp)))) ?_
                                          refine RH.take 4 rfl (by kernel_rfl) rfl rfl rfl hS72 (fun W105 hW105 => Yl.loadAgg (cs := [.slice pz1 ((tab (c.length) (((c[0]!).length) + ((d[0]!).length)) (fun x y => if y < (c[0]!).length then (i * (totG d)) * ((c[x]!)[y]!) else (j * (totG c)) * ((d[x]!)[y - (c[0]!).length]!))).length) cz1]) rfl rfl many24 (Blk.cells (Kp.blk hW105 hK470 (by simp)))) ?_
                                          refine RH.one 5 (by kernel_rfl) ?_
                                          refine RO.fn rfl rfl rfl rfl (Yc.func #[.agg #[.slice ps1 (((visR c d i j).1).length) cs1], .agg #[.slice pz1 ((tab (c.length) (((c[0]!).length) + ((d[0]!).length)) (fun x y => if y < (c[0]!).length then (i * (totG d)) * ((c[x]!)[y]!) else (j * (totG c)) * ((d[x]!)[y - (c[0]!).length]!))).length) cz1]] rfl ok19 (args2 rfl rfl)) (c19 (hR90.wide (Nat.zero_le _) (by omega)) (hR91.wide (Nat.zero_le _) (by omega))) ?_
                                          rintro _ w92 ⟨rfl, H65⟩
                                          have hS73 := Kp.step hS72 H65
                                          have hB92 := Bl.step hB91 H65
                                          have hK471 := Blk.below hK463 H65
                                          have hK472 := Blk.below hK464 H65
                                          have hK473 := Blk.below hK465 H65
                                          have hK474 := Blk.below hK466 H65
                                          have hK475 := Blk.below hK467 H65
                                          have hK476 := Blk.below hK468 H65
                                          have hK477 := Blk.below hK469 H65
                                          have hK478 := Blk.below hK470 H65
                                          have hR92 := hR90.mono (kept_below H65 (by omega))
                                          have hR93 := hR91.mono (kept_below H65 (by omega))
                                          have hz67 := H65.size
                                          rw [hkq]
                                          refine ⟨hS73, ?_⟩
                                          refine RH.take 6 rfl (by kernel_rfl) rfl rfl rfl hS73 (fun W107 hW107 => Yl.pickT rfl rfl rfl) ?_
                                          refine RH.take 7 rfl (by kernel_rfl) rfl rfl rfl hS73 (fun W108 hW108 => Yl.move rfl rfl) ?_
                                          refine RH.take 8 rfl (by kernel_rfl) rfl rfl rfl hS73 (fun W109 hW109 => Yl.loadAgg (cs := [.slice ps1 (((visR c d i j).1).length) cs1]) rfl rfl many24 (Blk.cells (Kp.blk hW109 hK466 (by simp)))) ?_
                                          refine RH.take 10 rfl (by kernel_rfl) rfl rfl rfl hS73 (fun W111 hW111 => Yl.load rfl rfl one3 (Blk.cell (Kp.blk hW111 hK467 (by simp)) rfl)) ?_
                                          refine RH.take 11 rfl (by kernel_rfl) rfl rfl rfl hS73 (fun W113 hW113 => Yl.loadAgg (cs := [.slice p c.length cc]) rfl rfl many24 (Blk.cells (Kp.blk hW113 hK463 (by simp)))) ?_
                                          refine RH.take 14 rfl (by kernel_rfl) rfl rfl rfl hS73 (fun W115 hW115 => Yl.load rfl rfl one3 (Blk.cell (Kp.blk hW115 hK468 (by simp)) rfl)) ?_
                                          refine RH.take 15 rfl (by kernel_rfl) rfl rfl rfl hS73 (fun W117 hW117 => Yl.loadAgg (cs := [.slice p2 d.length cd]) rfl rfl many24 (Blk.cells (Kp.blk hW117 hK464 (by simp)))) ?_
                                          refine RH.one 9 (by kernel_rfl) ?_
                                          refine RO.fn rfl rfl rfl rfl (Yc.func #[.agg #[.slice ps1 (((visR c d i j).1).length) cs1]] rfl ok24 (args1 rfl)) (c24 (hR92.wide (Nat.zero_le _) (by omega)) (validB_chanT hv_p)) ?_
                                          rintro _ w93 ⟨rfl, H66⟩
                                          have hS74 := Kp.step hS73 H66
                                          have hB93 := Bl.step hB92 H66
                                          have hK479 := Blk.below hK471 H66
                                          have hK480 := Blk.below hK472 H66
                                          have hK481 := Blk.below hK473 H66
                                          have hK482 := Blk.below hK474 H66
                                          have hK483 := Blk.below hK475 H66
                                          have hK484 := Blk.below hK476 H66
                                          have hK485 := Blk.below hK477 H66
                                          have hK486 := Blk.below hK478 H66
                                          have hR94 := hR92.mono (kept_below H66 (by omega))
                                          have hR95 := hR93.mono (kept_below H66 (by omega))
                                          have hz68 := H66.size
                                          refine ⟨hS74, ?_⟩
                                          refine RH.one 12 (by kernel_rfl) ?_
                                          refine RO.fn rfl rfl rfl rfl (Yc.func #[.agg #[.slice p c.length cc]] rfl ok24 (args1 rfl)) (c24 ((hv.mono (kept_from hB0 hB93 (Nat.le_refl _))).wide (Nat.zero_le _) (by omega)) (validB_chanT hv_c)) ?_
                                          rintro _ w94 ⟨rfl, H67⟩
                                          have hS75 := Kp.step hS74 H67
                                          have hB94 := Bl.step hB93 H67
                                          have hK487 := Blk.below hK479 H67
                                          have hK488 := Blk.below hK480 H67
                                          have hK489 := Blk.below hK481 H67
                                          have hK490 := Blk.below hK482 H67
                                          have hK491 := Blk.below hK483 H67
                                          have hK492 := Blk.below hK484 H67
                                          have hK493 := Blk.below hK485 H67
                                          have hK494 := Blk.below hK486 H67
                                          have hR96 := hR94.mono (kept_below H67 (by omega))
                                          have hR97 := hR95.mono (kept_below H67 (by omega))
                                          have hz69 := H67.size
                                          refine ⟨hS75, ?_⟩
                                          refine RH.take 13 rfl (by kernel_rfl) rfl rfl rfl hS75 (fun W120 hW120 => Yl.mul (m := i * (totG d)) (n := worthM c) rfl rfl rfl (by omega)) ?_
                                          refine RH.one 16 (by kernel_rfl) ?_
                                          refine RO.fn rfl rfl rfl rfl (Yc.func #[.agg #[.slice p2 d.length cd]] rfl ok24 (args1 rfl)) (c24 ((hu.mono (kept_from hB0 hB94 (Nat.le_refl _))).wide (Nat.zero_le _) (by omega)) (validB_chanT hv_d)) ?_
                                          rintro _ w95 ⟨rfl, H68⟩
                                          have hS76 := Kp.step hS75 H68
                                          have hB95 := Bl.step hB94 H68
                                          have hK495 := Blk.below hK487 H68
                                          have hK496 := Blk.below hK488 H68
                                          have hK497 := Blk.below hK489 H68
                                          have hK498 := Blk.below hK490 H68
                                          have hK499 := Blk.below hK491 H68
                                          have hK500 := Blk.below hK492 H68
                                          have hK501 := Blk.below hK493 H68
                                          have hK502 := Blk.below hK494 H68
                                          have hR98 := hR96.mono (kept_below H68 (by omega))
                                          have hR99 := hR97.mono (kept_below H68 (by omega))
                                          have hz70 := H68.size
                                          refine ⟨hS76, ?_⟩
                                          refine RH.take 17 rfl (by kernel_rfl) rfl rfl rfl hS76 (fun W122 hW122 => Yl.mul (m := j * (totG c)) (n := worthM d) rfl rfl rfl (by omega)) ?_
                                          refine RH.take 18 rfl (by kernel_rfl) rfl rfl rfl hS76 (fun W123 hW123 => Yl.add (m := (i * (totG d)) * (worthM c)) (n := (j * (totG c)) * (worthM d)) rfl rfl rfl (by omega)) ?_
                                          refine RH.take 19 rfl (by kernel_rfl) rfl rfl rfl hS76 (fun W124 hW124 => Yl.eql rfl rfl rfl) ?_
                                          refine RH.take 20 rfl (by kernel_rfl) rfl rfl rfl hS76 (fun W125 hW125 => Yl.pickT rfl rfl rfl) ?_
                                          refine RH.take 21 rfl (by kernel_rfl) rfl rfl rfl hS76 (fun W126 hW126 => Yl.assign rfl rfl) ?_
                                          refine RH.done (by kernel_rfl) ?_
                                          change CW _ _ _ _ _ _
                                          refine CW.ret ?_
                                          change FinQ _ _ _ _ _ _
                                          refine fin1 (.inr rfl) rfl rfl ?_
                                          exact ⟨_, rfl, bval (by first | rfl | exact decide_eq_true (by omega) | exact decide_eq_true (by assumption)), hB95⟩)
                                      ·
                                        have hq21 := of_decide_eq_false hg21
                                        first
                                        | (exfalso; omega)
                                        | (
                                          refine CW.draw 22 rfl (Kp []) (by kernel_rfl) ?_
                                          intro w96 H69
                                          have hB96 := Bl.step hB90 H69
                                          have hK503 := Blk.below hK455 H69
                                          have hK504 := Blk.below hK456 H69
                                          have hK505 := Blk.below hK457 H69
                                          have hK506 := Blk.below hK458 H69
                                          have hK507 := Blk.below hK459 H69
                                          have hK508 := Blk.below hK460 H69
                                          have hK509 := Blk.below hK461 H69
                                          have hK510 := Blk.below hK462 H69
                                          have hR100 := hR88.mono (kept_below H69 (by omega))
                                          have hR101 := hR89.mono (kept_below H69 (by omega))
                                          have hz71 := H69.size
                                          have hS77 := Kp.refl [] w96
                                          refine RH.take 0 rfl (by kernel_rfl) rfl rfl rfl hS77 (fun W127 hW127 => Yl.move rfl rfl) ?_
                                          refine RH.take 1 rfl (by kernel_rfl) rfl rfl rfl hS77 (fun W128 hW128 => Yl.eqb (Yl.eql rfl rfl rfl) hg21) ?_
                                          refine RH.take 2 rfl (by kernel_rfl) rfl rfl rfl hS77 (fun W129 hW129 => Yl.move rfl rfl) ?_
                                          refine RH.pass 3 rfl (by kernel_rfl) rfl rfl rfl hS77 ?_
                                          refine RH.pass 4 rfl (by kernel_rfl) rfl rfl rfl hS77 ?_
                                          refine RH.pass 5 rfl (by kernel_rfl) rfl rfl rfl hS77 ?_
                                          refine RH.take 6 rfl (by kernel_rfl) rfl rfl rfl hS77 (fun W130 hW130 => Yl.pickF rfl rfl rfl) ?_
                                          refine RH.take 7 rfl (by kernel_rfl) rfl rfl rfl hS77 (fun W131 hW131 => Yl.move rfl rfl) ?_
                                          refine RH.pass 8 rfl (by kernel_rfl) rfl rfl rfl hS77 ?_
                                          refine RH.pass 9 rfl (by kernel_rfl) rfl rfl rfl hS77 ?_
                                          refine RH.pass 10 rfl (by kernel_rfl) rfl rfl rfl hS77 ?_
                                          refine RH.pass 11 rfl (by kernel_rfl) rfl rfl rfl hS77 ?_
                                          refine RH.pass 12 rfl (by kernel_rfl) rfl rfl rfl hS77 ?_
                                          refine RH.pass 13 rfl (by kernel_rfl) rfl rfl rfl hS77 ?_
                                          refine RH.pass 14 rfl (by kernel_rfl) rfl rfl rfl hS77 ?_
                                          refine RH.pass 15 rfl (by kernel_rfl) rfl rfl rfl hS77 ?_
                                          refine RH.pass 16 rfl (by kernel_rfl) rfl rfl rfl hS77 ?_
                                          refine RH.pass 17 rfl (by kernel_rfl) rfl rfl rfl hS77 ?_
                                          refine RH.pass 18 rfl (by kernel_rfl) rfl rfl rfl hS77 ?_
                                          refine RH.pass 19 rfl (by kernel_rfl) rfl rfl rfl hS77 ?_
                                          refine RH.take 20 rfl (by kernel_rfl) rfl rfl rfl hS77 (fun W132 hW132 => Yl.pickF rfl rfl rfl) ?_
                                          refine RH.take 21 rfl (by kernel_rfl) rfl rfl rfl hS77 (fun W133 hW133 => Yl.assign rfl rfl) ?_
                                          refine RH.done (by kernel_rfl) ?_
                                          change CW _ _ _ _ _ _
                                          refine CW.ret ?_
                                          change FinQ _ _ _ _ _ _
                                          refine fin1 (.inr rfl) rfl rfl ?_
                                          exact ⟨_, rfl, bval (by first | rfl | exact decide_eq_true (by omega) | exact decide_eq_true (by assumption)), hB96⟩)))))))
          ·
            have hq4 := of_decide_eq_false hg6
            have hk : visR c d i j = ([], (lpairG c d)) := visR_bad (of_decide_eq_false hg6)
            have hk1 : (visR c d i j).1 = [] := by rw [hk]
            have hk2 : (visR c d i j).2 = (lpairG c d) := by rw [hk]
            have hk3 : (visR c d i j).1.length = 0 := by rw [hk]; rfl
            first
            | (exfalso; omega)
            | (
              refine CW.region ?_
              refine RW.yl rfl rfl rfl (Yl.move rfl rfl) ?_
              refine RW.yl rfl rfl rfl (Yl.eqb (Yl.eql rfl rfl rfl) hg6) ?_
              refine RW.yl rfl rfl rfl (Yl.move rfl rfl) ?_
              refine RW.skip rfl rfl rfl ?_
              refine RW.skip rfl rfl rfl ?_
              refine RW.skip rfl rfl rfl ?_
              refine RW.skip rfl rfl rfl ?_
              refine RW.skip rfl rfl rfl ?_
              refine RW.skip rfl rfl rfl ?_
              refine RW.skip rfl rfl rfl ?_
              refine RW.skip rfl rfl rfl ?_
              refine RW.skip rfl rfl rfl ?_
              refine RW.skip rfl rfl rfl ?_
              refine RW.skip rfl rfl rfl ?_
              refine RW.skip rfl rfl rfl ?_
              refine RW.skip rfl rfl rfl ?_
              refine RW.skip rfl rfl rfl ?_
              refine RW.yl rfl rfl rfl (Yl.pickF rfl rfl rfl) ?_
              refine RW.nil ?_
              change CW _ _ _ _ _ _
              refine CW.condF rfl ?_
              refine CW.skip ?_
              change CW _ _ _ _ _ _
              refine CW.seq ?_
              refine CW.seq ?_
              refine CW.region ?_
              refine RW.yl rfl rfl rfl (Yl.move rfl rfl) ?_
              refine RW.yl rfl rfl rfl (Yl.eqb (Yl.eql rfl rfl rfl) hg6) ?_
              refine RW.nil ?_
              change CW _ _ _ _ _ _
              refine CW.condF rfl ?_
              refine CW.skip ?_
              change CW _ _ _ _ _ _
              refine CW.seq ?_
              refine CW.seq ?_
              refine CW.region ?_
              refine RW.yl rfl rfl rfl (Yl.move rfl rfl) ?_
              refine RW.yl rfl rfl rfl (Yl.eqb (Yl.neq rfl rfl rfl) (congrArg (fun b => !b) hg6)) ?_
              refine RW.nil ?_
              change CW _ _ _ _ _ _
              refine CW.condT rfl ?_
              refine CW.seq ?_
              rcases Bool.eq_false_or_eq_true (decide (((visR c d i j).2) = (lpairG c d))) with hg22 | hg22
              ·
                have hq22 := of_decide_eq_true hg22
                first
                | (exfalso; omega)
                | (
                  refine CW.region ?_
                  refine RW.yl rfl rfl rfl (Yl.move rfl rfl) ?_
                  refine RW.yl rfl rfl rfl (Yl.move rfl rfl) ?_
                  refine RW.yl rfl rfl rfl (Yl.eqb (Yl.eql rfl rfl rfl) hg22) ?_
                  refine RW.yl rfl rfl rfl (Yl.move rfl rfl) ?_
                  refine RW.yl rfl rfl rfl (Yl.loadAgg (cs := [.slice ps1 (((visR c d i j).1).length) cs1]) rfl rfl many24 (Blk.cells hK29)) ?_
                  refine RW.fn rfl rfl rfl (Yc.func #[.agg #[.slice ps1 (((visR c d i j).1).length) cs1]] rfl ok18 (args1 rfl)) (c18 (hR4.wide (Nat.zero_le _) (by omega))) ?_
                  rintro _ w97 ⟨rfl, H70⟩
                  have hB97 := Bl.step hB11 H70
                  have hK511 := Blk.below hK26 H70
                  have hK512 := Blk.below hK27 H70
                  have hK513 := Blk.below hK28 H70
                  have hK514 := Blk.below hK29 H70
                  have hR102 := hR4.mono (kept_below H70 (by omega))
                  have hz72 := H70.size
                  refine RW.yl rfl rfl rfl (Yl.pickT rfl rfl rfl) ?_
                  refine RW.yl rfl rfl rfl (Yl.assign rfl rfl) ?_
                  refine RW.nil ?_
                  change CW _ _ _ _ _ _
                  refine CW.ret ?_
                  change FinQ _ _ _ _ _ _
                  refine fin1 (.inr rfl) rfl rfl ?_
                  exact ⟨_, rfl, bval (by first | rfl | exact decide_eq_true (by omega) | exact decide_eq_true (by assumption)), hB97⟩)
              ·
                have hq22 := of_decide_eq_false hg22
                first
                | (exfalso; omega)
                | (
                  refine CW.region ?_
                  refine RW.yl rfl rfl rfl (Yl.move rfl rfl) ?_
                  refine RW.yl rfl rfl rfl (Yl.move rfl rfl) ?_
                  refine RW.yl rfl rfl rfl (Yl.eqb (Yl.eql rfl rfl rfl) hg22) ?_
                  refine RW.yl rfl rfl rfl (Yl.move rfl rfl) ?_
                  refine RW.skip rfl rfl rfl ?_
                  refine RW.skip rfl rfl rfl ?_
                  refine RW.yl rfl rfl rfl (Yl.pickF rfl rfl rfl) ?_
                  refine RW.yl rfl rfl rfl (Yl.assign rfl rfl) ?_
                  refine RW.nil ?_
                  change CW _ _ _ _ _ _
                  refine CW.ret ?_
                  change FinQ _ _ _ _ _ _
                  refine fin1 (.inr rfl) rfl rfl ?_
                  exact ⟨_, rfl, bval (by first | rfl | exact decide_eq_true (by omega) | exact decide_eq_true (by assumption)), hB11⟩))))
  ·
    first
    | (exfalso; omega)
    | (
      refine CW.region ?_
      refine RW.yl rfl rfl rfl (Yl.loadAgg (cs := [.slice p c.length cc]) rfl rfl many24 (Blk.cells hK4)) ?_
      refine RW.fn rfl rfl rfl (Yc.func #[.agg #[.slice p c.length cc], .int .i64 20] rfl ok13 (args2 rfl rfl)) (c13 ((hv.mono (kept_from hB0 hB4 (Nat.le_refl _))).wide (Nat.zero_le _) (by omega))) ?_
      rintro _ w98 ⟨rfl, H71⟩
      have hB98 := Bl.step hB4 H71
      have hK515 := Blk.below hK4 H71
      have hK516 := Blk.below hK5 H71
      have hK517 := Blk.below hK6 H71
      have hz73 := H71.size
      rw [hg1]
      refine RW.yl rfl rfl rfl (Yl.not rfl rfl) ?_
      refine RW.yl rfl rfl rfl (Yl.move rfl rfl) ?_
      refine RW.skip rfl rfl rfl ?_
      refine RW.skip rfl rfl rfl ?_
      refine RW.skip rfl rfl rfl ?_
      refine RW.yl rfl rfl rfl (Yl.pickT rfl rfl rfl) ?_
      refine RW.nil ?_
      change CW _ _ _ _ _ _
      refine CW.condT rfl ?_
      refine CW.seq ?_
      refine CW.region ?_
      refine RW.yl rfl rfl rfl (Yl.assign rfl rfl) ?_
      refine RW.nil ?_
      change CW _ _ _ _ _ _
      refine CW.ret ?_
      change FinQ _ _ _ _ _ _
      refine fin1 (.inr rfl) rfl rfl ?_
      exact ⟨_, rfl, bval (by first | rfl | exact decide_eq_true (by omega) | exact decide_eq_true (by assumption)), hB98⟩)

end Go.Proofs.Ytodeffidnipelaa
