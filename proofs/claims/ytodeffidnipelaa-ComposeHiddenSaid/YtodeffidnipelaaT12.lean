/- ComposeHidden. -/
import Derived.Test.YtodeffidnipelaaM3
namespace Go.Proofs.Ytodeffidnipelaa
open Go.RowKit Go.Ev

theorem ok24 : fnOk Try.prog 24 := ⟨_, Try.func24, by kernel_rfl, rfl⟩
theorem ok26 : fnOk Try.prog 26 := ⟨_, Try.func26, by kernel_rfl, rfl⟩
set_option maxHeartbeats 4000000 in
theorem c8 {w : World} {v u : Value} {c d : List (List Int)} (hv : RRows 0 w.heap.size w v c) (hu : RRows 0 w.heap.size w u d) {i j : Int} :
    Calls Try.prog 8 #[.agg #[v], .agg #[u], .agg #[.int .i64 i, .int .i64 j]] w (Ret fun r w' => r = .bool true ∧ Below w.heap.size w w') := by
  obtain ⟨p, cc, rfl, hl⟩ := hv.form
  obtain ⟨p2, cd, rfl, hl2⟩ := hu.form
  have hB0 : Below w.heap.size w w := Below.refl _ _
  refine Ev.calls (l := [.agg #[.slice p c.length cc], .agg #[.slice p2 d.length cd], .agg #[.int .i64 i, .int .i64 j]]) Try.func8 rfl rfl rfl ?_
  change CW _ _ _ _ [(0, .agg #[.slice p c.length cc]), (1, .agg #[.slice p2 d.length cd]), (2, .agg #[.int .i64 i, .int .i64 j])] _
  refine CW.seq ?_
  refine CW.region ?_
  refine RW.newP (cs := #[.slice p c.length cc]) (T := 24) rfl rfl rfl (Yv.box (v := .agg #[.slice p c.length cc]) rfl rfl) ?_
  intro b1 w1 N1
  have lo_b1 : w.heap.size ≤ b1 := by have := hB0.size; have := N1.num; omega
  have hn_b1 := N1.num
  have hs_b1 := N1.size
  have hB1 := Bl.step hB0 N1.below
  refine RW.newP (cs := #[.slice p2 d.length cd]) (T := 24) rfl rfl rfl (Yv.box (v := .agg #[.slice p2 d.length cd]) rfl rfl) ?_
  intro b2 w2 N2
  have ne1 := New.ne N2 N1.blk
  have lo_b2 : w.heap.size ≤ b2 := by have := hB1.size; have := N2.num; omega
  have hn_b2 := N2.num
  have hs_b2 := N2.size
  have hB2 := Bl.step hB1 N2.below
  have hK1 := Blk.below N1.blk N2.below
  refine RW.newP (cs := #[.int .i64 i, .int .i64 j]) (T := 39) rfl rfl rfl (Yv.box (v := .agg #[.int .i64 i, .int .i64 j]) rfl rfl) ?_
  intro b3 w3 N3
  have ne2 := New.ne N3 hK1
  have ne3 := New.ne N3 N2.blk
  have lo_b3 : w.heap.size ≤ b3 := by have := hB2.size; have := N3.num; omega
  have hn_b3 := N3.num
  have hs_b3 := N3.size
  have hB3 := Bl.step hB2 N3.below
  have hK2 := Blk.below hK1 N3.below
  have hK3 := Blk.below N2.blk N3.below
  refine RW.yl rfl rfl rfl (Yl.assign rfl rfl) ?_
  refine RW.nil ?_
  change CW _ _ _ _ _ _
  refine CW.seq ?_
  refine CW.seq ?_
  refine CW.region ?_
  refine RW.fn rfl rfl rfl (Yc.func #[] rfl ok12 (args0)) (c12) ?_
  rintro _ w4 ⟨rfl, H1⟩
  have hB4 := Bl.step hB3 H1
  have hK4 := Blk.below hK2 H1
  have hK5 := Blk.below hK3 H1
  have hK6 := Blk.below N3.blk H1
  have hz1 := H1.size
  refine RW.yl rfl rfl rfl (Yl.not rfl rfl) ?_
  refine RW.nil ?_
  change CW _ _ _ _ _ _
  refine CW.condF rfl ?_
  refine CW.skip ?_
  change CW _ _ _ _ _ _
  refine CW.seq ?_
  refine CW.seq ?_
  rcases Bool.eq_false_or_eq_true (smallB c 20) with hg1 | hg1
  ·
    first
    | (exfalso; omega)
    | (
      refine CW.region ?_
      refine RW.yl rfl rfl rfl (Yl.loadAgg (cs := [.slice p c.length cc]) rfl rfl many24 (Blk.cells hK4)) ?_
      refine RW.fn rfl rfl rfl (Yc.func #[.agg #[.slice p c.length cc], .int .i64 20] rfl ok13 (args2 rfl rfl)) (c13 ((hv.mono (kept_from hB0 hB4 (Nat.le_refl _))).wide (Nat.zero_le _) (by omega))) ?_
      rintro _ w5 ⟨rfl, H2⟩
      have hB5 := Bl.step hB4 H2
      have hK7 := Blk.below hK4 H2
      have hK8 := Blk.below hK5 H2
      have hK9 := Blk.below hK6 H2
      have hz2 := H2.size
      rw [hg1]
      refine RW.yl rfl rfl rfl (Yl.not rfl rfl) ?_
      refine RW.yl rfl rfl rfl (Yl.move rfl rfl) ?_
      refine RW.yl rfl rfl rfl (Yl.loadAgg (cs := [.slice p2 d.length cd]) rfl rfl many24 (Blk.cells hK8)) ?_
      refine RW.fn rfl rfl rfl (Yc.func #[.agg #[.slice p2 d.length cd], .int .i64 20] rfl ok13 (args2 rfl rfl)) (c13 ((hu.mono (kept_from hB0 hB5 (Nat.le_refl _))).wide (Nat.zero_le _) (by omega))) ?_
      rintro _ w6 ⟨rfl, H3⟩
      have hB6 := Bl.step hB5 H3
      have hK10 := Blk.below hK7 H3
      have hK11 := Blk.below hK8 H3
      have hK12 := Blk.below hK9 H3
      have hz3 := H3.size
      refine RW.yl rfl rfl rfl (Yl.not rfl rfl) ?_
      refine RW.yl rfl rfl rfl (Yl.pickF rfl rfl rfl) ?_
      refine RW.nil ?_
      change CW _ _ _ _ _ _
      refine CW.cond rfl ?_ ?_
      ·
        intro hg2
        have hg3 : smallB d 20 = false := not_t hg2
        first
        | (exfalso; omega)
        | (
          refine CW.seq ?_
          refine CW.region ?_
          refine RW.yl rfl rfl rfl (Yl.assign rfl rfl) ?_
          refine RW.nil ?_
          change CW _ _ _ _ _ _
          refine CW.ret ?_
          change FinQ _ _ _ _ _ _
          refine fin1 (.inr rfl) rfl rfl ?_
          exact ⟨_, rfl, bval (by first | rfl | exact decide_eq_true (by omega) | exact decide_eq_true (by assumption)), hB6⟩)
      ·
        intro hg4
        have hg5 : smallB d 20 = true := not_f hg4
        first
        | (exfalso; omega)
        | (
          refine CW.skip ?_
          change CW _ _ _ _ _ _
          refine CW.seq ?_
          refine CW.draw 6 rfl (Kp []) (by kernel_rfl) ?_
          intro w7 H4
          have hB7 := Bl.step hB6 H4
          have hK13 := Blk.below hK10 H4
          have hK14 := Blk.below hK11 H4
          have hK15 := Blk.below hK12 H4
          have hz4 := H4.size
          have hS1 := Kp.refl [] w7
          refine RH.take 0 rfl (by kernel_rfl) rfl rfl rfl hS1 (fun W1 hW1 => Yl.indexAddrA (k := 0) rfl rfl rfl Try.underlying39 sz3 rfl (by omega)) ?_
          refine RH.take 1 rfl (by kernel_rfl) rfl rfl rfl hS1 (fun W2 hW2 => Yl.load rfl rfl one3 (Blk.cell (Kp.blk hW2 hK15 (by simp)) rfl)) ?_
          refine RH.take 2 rfl (by kernel_rfl) rfl rfl rfl hS1 (fun W3 hW3 => Yl.indexAddrA (k := 1) rfl rfl rfl Try.underlying39 sz3 rfl (by omega)) ?_
          refine RH.take 3 rfl (by kernel_rfl) rfl rfl rfl hS1 (fun W4 hW4 => Yl.load rfl rfl one3 (Blk.cell (Kp.blk hW4 hK15 (by simp)) rfl)) ?_
          refine RH.take 4 rfl (by kernel_rfl) rfl rfl rfl hS1 (fun W5 hW5 => Yl.assign rfl rfl) ?_
          refine RH.take 5 rfl (by kernel_rfl) rfl rfl rfl hS1 (fun W6 hW6 => Yl.assign rfl rfl) ?_
          refine RH.done (by kernel_rfl) ?_
          change CW _ _ _ _ _ _
          refine CW.seq ?_
          refine CW.region ?_
          refine RW.yl rfl rfl rfl (Yl.loadAgg (cs := [.slice p c.length cc]) rfl rfl many24 (Blk.cells hK13)) ?_
          refine RW.yl rfl rfl rfl (Yl.loadAgg (cs := [.slice p2 d.length cd]) rfl rfl many24 (Blk.cells hK14)) ?_
          refine RW.yl rfl rfl rfl (Yl.move rfl rfl) ?_
          refine RW.yl rfl rfl rfl (Yl.move rfl rfl) ?_
          refine RW.fn rfl rfl rfl (Yc.func #[.agg #[.slice p c.length cc], .agg #[.slice p2 d.length cd], .int .i64 i, .int .i64 j] rfl ok26 (args4 rfl rfl rfl rfl)) (c26 ((hv.mono (kept_from hB0 hB7 (Nat.le_refl _))).wide (Nat.zero_le _) (by omega)) ((hu.mono (kept_from hB0 hB7 (Nat.le_refl _))).wide (Nat.zero_le _) (by omega))) ?_
          rintro _ w8 ⟨s1, rfl, hR1, H5⟩
          obtain ⟨ps1, cs1, rfl, hl1⟩ := hR1.form
          have hB8 := Bl.step hB7 H5
          have hK16 := Blk.below hK13 H5
          have hK17 := Blk.below hK14 H5
          have hK18 := Blk.below hK15 H5
          have hz5 := H5.size
          refine RW.yl rfl rfl rfl (Yl.move rfl rfl) ?_
          refine RW.yl rfl rfl rfl (Yl.extract rfl rfl rfl) ?_
          refine RW.yl rfl rfl rfl (Yl.extract rfl rfl rfl) ?_
          refine RW.newP (cs := #[.slice none 0 0]) (T := 24) rfl rfl rfl (Yv.alloc (z := .agg #[.slice none 0 0]) rfl zero24) ?_
          intro b4 w9 N4
          have ne4 := New.ne N4 hK16
          have ne5 := New.ne N4 hK17
          have ne6 := New.ne N4 hK18
          have lo_b4 : w.heap.size ≤ b4 := by have := hB8.size; have := N4.num; omega
          have hn_b4 := N4.num
          have hs_b4 := N4.size
          have hB9 := Bl.step hB8 N4.below
          have hK19 := Blk.below hK16 N4.below
          have hK20 := Blk.below hK17 N4.below
          have hK21 := Blk.below hK18 N4.below
          have hR2 := hR1.mono (kept_below N4.below (by omega))
          refine RW.stoAll (cs' := #[.slice ps1 (((hidR c d i j).1).length) cs1]) rfl rfl N4.blk (Yu.storeAll rfl rfl rfl sz24 N4.blk rfl (by simp [Value.oneCell'])) ?_
          intro w10 H6
          have hB10 := Bl.sto hB9 H6 lo_b4
          have hK22 := Blk.sto hK19 H6 ne4
          have hK23 := Blk.sto hK20 H6 ne5
          have hK24 := Blk.sto hK21 H6 ne6
          have hK25 := H6.blk
          have hR3 := hR2.mono (kept_sto H6 (by omega) (by omega))
          have hz6 := H6.size
          refine RW.yl rfl rfl rfl (Yl.assign rfl rfl) ?_
          refine RW.nil ?_
          change CW _ _ _ _ _ _
          refine CW.seq ?_
          refine CW.region ?_
          refine RW.yl rfl rfl rfl (Yl.loadAgg (cs := [.slice p c.length cc]) rfl rfl many24 (Blk.cells hK22)) ?_
          refine RW.yl rfl rfl rfl (Yl.loadAgg (cs := [.slice p2 d.length cd]) rfl rfl many24 (Blk.cells hK23)) ?_
          refine RW.fn rfl rfl rfl (Yc.func #[.agg #[.slice p c.length cc], .agg #[.slice p2 d.length cd]] rfl ok22 (args2 rfl rfl)) (c22 ((hv.mono (kept_from hB0 hB10 (Nat.le_refl _))).wide (Nat.zero_le _) (by omega)) ((hu.mono (kept_from hB0 hB10 (Nat.le_refl _))).wide (Nat.zero_le _) (by omega))) ?_
          rintro _ w11 ⟨rfl, H7⟩
          have hB11 := Bl.step hB10 H7
          have hK26 := Blk.below hK22 H7
          have hK27 := Blk.below hK23 H7
          have hK28 := Blk.below hK24 H7
          have hK29 := Blk.below hK25 H7
          have hR4 := hR3.mono (kept_below H7 (by omega))
          have hz7 := H7.size
          refine RW.yl rfl rfl rfl (Yl.assign rfl rfl) ?_
          refine RW.nil ?_
          change CW _ _ _ _ _ _
          refine CW.seq ?_
          refine CW.seq ?_
          rcases Bool.eq_false_or_eq_true (decide ((lpairG c d) = 0)) with hg6 | hg6
          ·
            have hq4 := of_decide_eq_true hg6
            obtain ⟨hv_c, hv_d, hlen⟩ := lpairG_zero (of_decide_eq_true hg6)
            have ht_c := totG_bounds hv_c
            have hcc_c := validB_chan hv_c
            have hr1_c := hcc_c.r1
            have hr2_c := hcc_c.r2
            have hc1_c := hcc_c.c1
            have hc2_c := hcc_c.c2
            have ht_d := totG_bounds hv_d
            have hcc_d := validB_chan hv_d
            have hr1_d := hcc_d.r1
            have hr2_d := hcc_d.r2
            have hc1_d := hcc_d.c1
            have hc2_d := hcc_d.c2
            have hmm := mul_small ⟨ht_c.1, ht_c.2.1⟩ ⟨ht_d.1, ht_d.2.1⟩
            have hcc2 := Nat.mul_le_mul hc2_c hc2_d
            obtain ⟨hwc, hwcd, hwctd⟩ := worth_mul_bounds hv_c hv_d
            obtain ⟨hwd, hwdc, hwdtc⟩ := worth_mul_bounds hv_d hv_c
            first
            | (exfalso; omega)
            | (
              refine CW.draw 15 rfl (Kp []) (by kernel_rfl) ?_
              intro w12 H8
              have hB12 := Bl.step hB11 H8
              have hK30 := Blk.below hK26 H8
              have hK31 := Blk.below hK27 H8
              have hK32 := Blk.below hK28 H8
              have hK33 := Blk.below hK29 H8
              have hR5 := hR4.mono (kept_below H8 (by omega))
              have hz8 := H8.size
              have hS2 := Kp.refl [] w12
              refine RH.take 0 rfl (by kernel_rfl) rfl rfl rfl hS2 (fun W7 hW7 => Yl.move rfl rfl) ?_
              refine RH.take 1 rfl (by kernel_rfl) rfl rfl rfl hS2 (fun W8 hW8 => Yl.eqb (Yl.eql rfl rfl rfl) hg6) ?_
              refine RH.take 2 rfl (by kernel_rfl) rfl rfl rfl hS2 (fun W9 hW9 => Yl.move rfl rfl) ?_
              refine RH.take 3 rfl (by kernel_rfl) rfl rfl rfl hS2 (fun W10 hW10 => Yl.fieldAddr rfl rfl Try.underlying24 rfl sz22) ?_
              refine RH.take 4 rfl (by kernel_rfl) rfl rfl rfl hS2 (fun W11 hW11 => Yl.load rfl rfl one22 (Blk.cell (Kp.blk hW11 hK30 (by simp)) rfl)) ?_
              obtain ⟨bx1, ox1, px1, cx1, hp1, hl2, hh1, hc1, hx1, hn1⟩ := (hv.mono (kept_from hB0 hB12 (Nat.le_refl _))).at 0 (by omega)
              refine RH.take 5 rfl (by kernel_rfl) rfl rfl rfl hS2 (fun W12 hW12 => Yl.indexAddr1 (k := 0) rfl rfl rfl Try.underlying22 sz31 hp1 rfl (by omega)) ?_
              refine RH.take 6 rfl (by kernel_rfl) rfl rfl rfl hS2 (fun W13 hW13 => Yl.load rfl rfl one31 (Kp.cell hW13 hc1 (by simp))) ?_
              refine RH.take 7 rfl (by kernel_rfl) rfl rfl rfl hS2 (fun W14 hW14 => Yl.len rfl rfl Try.underlying31) ?_
              refine RH.take 8 rfl (by kernel_rfl) rfl rfl rfl hS2 (fun W15 hW15 => Yl.fieldAddr rfl rfl Try.underlying24 rfl sz22) ?_
              refine RH.take 9 rfl (by kernel_rfl) rfl rfl rfl hS2 (fun W16 hW16 => Yl.load rfl rfl one22 (Blk.cell (Kp.blk hW16 hK31 (by simp)) rfl)) ?_
              obtain ⟨bx2, ox2, px2, cx2, hp2, hl3, hh2, hc2, hx2, hn2⟩ := (hu.mono (kept_from hB0 hB12 (Nat.le_refl _))).at 0 (by omega)
              refine RH.take 10 rfl (by kernel_rfl) rfl rfl rfl hS2 (fun W17 hW17 => Yl.indexAddr1 (k := 0) rfl rfl rfl Try.underlying22 sz31 hp2 rfl (by omega)) ?_
              refine RH.take 11 rfl (by kernel_rfl) rfl rfl rfl hS2 (fun W18 hW18 => Yl.load rfl rfl one31 (Kp.cell hW18 hc2 (by simp))) ?_
              refine RH.take 12 rfl (by kernel_rfl) rfl rfl rfl hS2 (fun W19 hW19 => Yl.len rfl rfl Try.underlying31) ?_
              refine RH.take 13 rfl (by kernel_rfl) rfl rfl rfl hS2 (fun W20 hW20 => Yl.neq rfl rfl rfl) ?_
              refine RH.take 14 rfl (by kernel_rfl) rfl rfl rfl hS2 (fun W21 hW21 => Yl.pickT rfl rfl rfl) ?_
              refine RH.done (by kernel_rfl) ?_
              change CW _ _ _ _ _ _
              refine CW.cond rfl ?_ ?_
              ·
                intro hg7
                have hg8 : decide ((((c[0]!).length : Nat) : Int) = (((d[0]!).length : Nat) : Int)) = false := not_t hg7
                have hq6 := of_decide_eq_false hg8
                have hk : hidR c d i j = ([], 2) := hidR_col hv_c hv_d hlen (by omega)
                have hk1 : (hidR c d i j).1 = [] := by rw [hk]
                have hk2 : (hidR c d i j).2 = 2 := by rw [hk]
                have hk3 : (hidR c d i j).1.length = 0 := by rw [hk]; rfl
                first
                | (exfalso; omega)
                | (
                  refine CW.region ?_
                  refine RW.yl rfl rfl rfl (Yl.assign rfl rfl) ?_
                  refine RW.nil ?_
                  change CW _ _ _ _ _ _
                  refine CW.seq ?_
                  refine CW.seq ?_
                  refine CW.region ?_
                  refine RW.yl rfl rfl rfl (Yl.move rfl rfl) ?_
                  refine RW.yl rfl rfl rfl (Yl.eqb (Yl.eql rfl rfl rfl) (show (decide ((2 : Int) = 0)) = false by decide)) ?_
                  refine RW.yl rfl rfl rfl (Yl.move rfl rfl) ?_
                  refine RW.skip rfl rfl rfl ?_
                  refine RW.skip rfl rfl rfl ?_
                  refine RW.skip rfl rfl rfl ?_
                  refine RW.skip rfl rfl rfl ?_
                  refine RW.skip rfl rfl rfl ?_
                  refine RW.skip rfl rfl rfl ?_
                  refine RW.skip rfl rfl rfl ?_
                  refine RW.skip rfl rfl rfl ?_
                  refine RW.skip rfl rfl rfl ?_
                  refine RW.skip rfl rfl rfl ?_
                  refine RW.skip rfl rfl rfl ?_
                  refine RW.skip rfl rfl rfl ?_
                  refine RW.skip rfl rfl rfl ?_
                  refine RW.skip rfl rfl rfl ?_
                  refine RW.yl rfl rfl rfl (Yl.pickF rfl rfl rfl) ?_
                  refine RW.nil ?_
                  change CW _ _ _ _ _ _
                  refine CW.condF rfl ?_
                  refine CW.skip ?_
                  change CW _ _ _ _ _ _
                  refine CW.seq ?_
                  refine CW.seq ?_
                  refine CW.region ?_
                  refine RW.yl rfl rfl rfl (Yl.move rfl rfl) ?_
                  refine RW.yl rfl rfl rfl (Yl.eqb (Yl.eql rfl rfl rfl) (show (decide ((2 : Int) = 0)) = false by decide)) ?_
                  refine RW.nil ?_
                  change CW _ _ _ _ _ _
                  refine CW.condF rfl ?_
                  refine CW.skip ?_
                  change CW _ _ _ _ _ _
                  refine CW.seq ?_
                  refine CW.seq ?_
                  refine CW.region ?_
                  refine RW.yl rfl rfl rfl (Yl.move rfl rfl) ?_
                  refine RW.yl rfl rfl rfl (Yl.eqb (Yl.neq rfl rfl rfl) (show (!decide ((2 : Int) = 0)) = true by decide)) ?_
                  refine RW.nil ?_
                  change CW _ _ _ _ _ _
                  refine CW.condT rfl ?_
                  refine CW.seq ?_
                  rcases Bool.eq_false_or_eq_true (decide (((hidR c d i j).2) = 2)) with hg9 | hg9
                  ·
                    have hq7 := of_decide_eq_true hg9
                    first
                    | (exfalso; omega)
                    | (
                      refine CW.region ?_
                      refine RW.yl rfl rfl rfl (Yl.move rfl rfl) ?_
                      refine RW.yl rfl rfl rfl (Yl.move rfl rfl) ?_
                      refine RW.yl rfl rfl rfl (Yl.eqb (Yl.eql rfl rfl rfl) hg9) ?_
                      refine RW.yl rfl rfl rfl (Yl.move rfl rfl) ?_
                      refine RW.yl rfl rfl rfl (Yl.loadAgg (cs := [.slice ps1 (((hidR c d i j).1).length) cs1]) rfl rfl many24 (Blk.cells hK33)) ?_
                      refine RW.fn rfl rfl rfl (Yc.func #[.agg #[.slice ps1 (((hidR c d i j).1).length) cs1]] rfl ok18 (args1 rfl)) (c18 (hR5.wide (Nat.zero_le _) (by omega))) ?_
                      rintro _ w13 ⟨rfl, H9⟩
                      have hB13 := Bl.step hB12 H9
                      have hK34 := Blk.below hK30 H9
                      have hK35 := Blk.below hK31 H9
                      have hK36 := Blk.below hK32 H9
                      have hK37 := Blk.below hK33 H9
                      have hR6 := hR5.mono (kept_below H9 (by omega))
                      have hz9 := H9.size
                      refine RW.yl rfl rfl rfl (Yl.pickT rfl rfl rfl) ?_
                      refine RW.yl rfl rfl rfl (Yl.assign rfl rfl) ?_
                      refine RW.nil ?_
                      change CW _ _ _ _ _ _
                      refine CW.ret ?_
                      change FinQ _ _ _ _ _ _
                      refine fin1 (.inr rfl) rfl rfl ?_
                      exact ⟨_, rfl, bval (by first | rfl | exact decide_eq_true (by omega) | exact decide_eq_true (by assumption)), hB13⟩)
                  ·
                    have hq7 := of_decide_eq_false hg9
                    first
                    | (exfalso; omega)
                    | (
                      refine CW.region ?_
                      refine RW.yl rfl rfl rfl (Yl.move rfl rfl) ?_
                      refine RW.yl rfl rfl rfl (Yl.move rfl rfl) ?_
                      refine RW.yl rfl rfl rfl (Yl.eqb (Yl.eql rfl rfl rfl) hg9) ?_
                      refine RW.yl rfl rfl rfl (Yl.move rfl rfl) ?_
                      refine RW.skip rfl rfl rfl ?_
                      refine RW.skip rfl rfl rfl ?_
                      refine RW.yl rfl rfl rfl (Yl.pickF rfl rfl rfl) ?_
                      refine RW.yl rfl rfl rfl (Yl.assign rfl rfl) ?_
                      refine RW.nil ?_
                      change CW _ _ _ _ _ _
                      refine CW.ret ?_
                      change FinQ _ _ _ _ _ _
                      refine fin1 (.inr rfl) rfl rfl ?_
                      exact ⟨_, rfl, bval (by first | rfl | exact decide_eq_true (by omega) | exact decide_eq_true (by assumption)), hB12⟩))
              ·
                intro hg10
                have hg11 : decide ((((c[0]!).length : Nat) : Int) = (((d[0]!).length : Nat) : Int)) = true := not_f hg10
                have hq9 := of_decide_eq_true hg11
                first
                | (exfalso; omega)
                | (
                  refine CW.skip ?_
                  change CW _ _ _ _ _ _
                  refine CW.seq ?_
                  refine CW.seq ?_
                  rcases Bool.eq_false_or_eq_true (decide (i < 1)) with hg12 | hg12
                  ·
                    have hq10 := of_decide_eq_true hg12
                    have hk : hidR c d i j = ([], 3) := hidR_w hv_c hv_d hlen (by omega) (weights_no (by omega))
                    have hk1 : (hidR c d i j).1 = [] := by rw [hk]
                    have hk2 : (hidR c d i j).2 = 3 := by rw [hk]
                    have hk3 : (hidR c d i j).1.length = 0 := by rw [hk]; rfl
                    first
                    | (exfalso; omega)
                    | (
                      refine CW.region ?_
                      refine RW.yl rfl rfl rfl (Yl.move rfl rfl) ?_
                      refine RW.yl rfl rfl rfl (Yl.eqb (Yl.eql rfl rfl rfl) hg6) ?_
                      refine RW.yl rfl rfl rfl (Yl.move rfl rfl) ?_
                      refine RW.yl rfl rfl rfl (Yl.move rfl rfl) ?_
                      refine RW.yl rfl rfl rfl (Yl.eqb (Yl.lss rfl rfl rfl) hg12) ?_
                      refine RW.yl rfl rfl rfl (Yl.move rfl rfl) ?_
                      refine RW.skip rfl rfl rfl ?_
                      refine RW.skip rfl rfl rfl ?_
                      refine RW.yl rfl rfl rfl (Yl.pickT rfl rfl rfl) ?_
                      refine RW.yl rfl rfl rfl (Yl.move rfl rfl) ?_
                      refine RW.skip rfl rfl rfl ?_
                      refine RW.skip rfl rfl rfl ?_
                      refine RW.yl rfl rfl rfl (Yl.pickT rfl rfl rfl) ?_
                      refine RW.yl rfl rfl rfl (Yl.move rfl rfl) ?_
                      refine RW.skip rfl rfl rfl ?_
                      refine RW.skip rfl rfl rfl ?_
                      refine RW.yl rfl rfl rfl (Yl.pickT rfl rfl rfl) ?_
                      refine RW.yl rfl rfl rfl (Yl.pickT rfl rfl rfl) ?_
                      refine RW.nil ?_
                      change CW _ _ _ _ _ _
                      refine CW.condT rfl ?_
                      refine CW.region ?_
                      refine RW.yl rfl rfl rfl (Yl.assign rfl rfl) ?_
                      refine RW.nil ?_
                      change CW _ _ _ _ _ _
                      refine CW.seq ?_
                      refine CW.seq ?_
                      refine CW.region ?_
                      refine RW.yl rfl rfl rfl (Yl.move rfl rfl) ?_
                      refine RW.yl rfl rfl rfl (Yl.eqb (Yl.eql rfl rfl rfl) (show (decide ((3 : Int) = 0)) = false by decide)) ?_
                      refine RW.nil ?_
                      change CW _ _ _ _ _ _
                      refine CW.condF rfl ?_
                      refine CW.skip ?_
                      change CW _ _ _ _ _ _
                      refine CW.seq ?_
                      refine CW.seq ?_
                      refine CW.region ?_
                      refine RW.yl rfl rfl rfl (Yl.move rfl rfl) ?_
                      refine RW.yl rfl rfl rfl (Yl.eqb (Yl.neq rfl rfl rfl) (show (!decide ((3 : Int) = 0)) = true by decide)) ?_
                      refine RW.nil ?_
                      change CW _ _ _ _ _ _
                      refine CW.condT rfl ?_
                      refine CW.seq ?_
                      rcases Bool.eq_false_or_eq_true (decide (((hidR c d i j).2) = 3)) with hg13 | hg13
                      ·
                        have hq11 := of_decide_eq_true hg13
                        first
                        | (exfalso; omega)
                        | (
                          refine CW.region ?_
                          refine RW.yl rfl rfl rfl (Yl.move rfl rfl) ?_
                          refine RW.yl rfl rfl rfl (Yl.move rfl rfl) ?_
                          refine RW.yl rfl rfl rfl (Yl.eqb (Yl.eql rfl rfl rfl) hg13) ?_
                          refine RW.yl rfl rfl rfl (Yl.move rfl rfl) ?_
                          refine RW.yl rfl rfl rfl (Yl.loadAgg (cs := [.slice ps1 (((hidR c d i j).1).length) cs1]) rfl rfl many24 (Blk.cells hK33)) ?_
                          refine RW.fn rfl rfl rfl (Yc.func #[.agg #[.slice ps1 (((hidR c d i j).1).length) cs1]] rfl ok18 (args1 rfl)) (c18 (hR5.wide (Nat.zero_le _) (by omega))) ?_
                          rintro _ w14 ⟨rfl, H10⟩
                          have hB14 := Bl.step hB12 H10
                          have hK38 := Blk.below hK30 H10
                          have hK39 := Blk.below hK31 H10
                          have hK40 := Blk.below hK32 H10
                          have hK41 := Blk.below hK33 H10
                          have hR7 := hR5.mono (kept_below H10 (by omega))
                          have hz10 := H10.size
                          refine RW.yl rfl rfl rfl (Yl.pickT rfl rfl rfl) ?_
                          refine RW.yl rfl rfl rfl (Yl.assign rfl rfl) ?_
                          refine RW.nil ?_
                          change CW _ _ _ _ _ _
                          refine CW.ret ?_
                          change FinQ _ _ _ _ _ _
                          refine fin1 (.inr rfl) rfl rfl ?_
                          exact ⟨_, rfl, bval (by first | rfl | exact decide_eq_true (by omega) | exact decide_eq_true (by assumption)), hB14⟩)
                      ·
                        have hq11 := of_decide_eq_false hg13
                        first
                        | (exfalso; omega)
                        | (
                          refine CW.region ?_
                          refine RW.yl rfl rfl rfl (Yl.move rfl rfl) ?_
                          refine RW.yl rfl rfl rfl (Yl.move rfl rfl) ?_
                          refine RW.yl rfl rfl rfl (Yl.eqb (Yl.eql rfl rfl rfl) hg13) ?_
                          refine RW.yl rfl rfl rfl (Yl.move rfl rfl) ?_
                          refine RW.skip rfl rfl rfl ?_
                          refine RW.skip rfl rfl rfl ?_
                          refine RW.yl rfl rfl rfl (Yl.pickF rfl rfl rfl) ?_
                          refine RW.yl rfl rfl rfl (Yl.assign rfl rfl) ?_
                          refine RW.nil ?_
                          change CW _ _ _ _ _ _
                          refine CW.ret ?_
                          change FinQ _ _ _ _ _ _
                          refine fin1 (.inr rfl) rfl rfl ?_
                          exact ⟨_, rfl, bval (by first | rfl | exact decide_eq_true (by omega) | exact decide_eq_true (by assumption)), hB12⟩))
                  ·
                    have hq10 := of_decide_eq_false hg12
                    first
                    | (exfalso; omega)
                    | (
                      rcases Bool.eq_false_or_eq_true (decide (100 < i)) with hg14 | hg14
                      ·
                        have hq12 := of_decide_eq_true hg14
                        have hk : hidR c d i j = ([], 3) := hidR_w hv_c hv_d hlen (by omega) (weights_no (by omega))
                        have hk1 : (hidR c d i j).1 = [] := by rw [hk]
                        have hk2 : (hidR c d i j).2 = 3 := by rw [hk]
                        have hk3 : (hidR c d i j).1.length = 0 := by rw [hk]; rfl
                        first
                        | (exfalso; omega)
                        | (
                          refine CW.region ?_
                          refine RW.yl rfl rfl rfl (Yl.move rfl rfl) ?_
                          refine RW.yl rfl rfl rfl (Yl.eqb (Yl.eql rfl rfl rfl) hg6) ?_
                          refine RW.yl rfl rfl rfl (Yl.move rfl rfl) ?_
                          refine RW.yl rfl rfl rfl (Yl.move rfl rfl) ?_
                          refine RW.yl rfl rfl rfl (Yl.eqb (Yl.lss rfl rfl rfl) hg12) ?_
                          refine RW.yl rfl rfl rfl (Yl.move rfl rfl) ?_
                          refine RW.yl rfl rfl rfl (Yl.move rfl rfl) ?_
                          refine RW.yl rfl rfl rfl (Yl.eqb (Yl.gtr rfl rfl rfl) hg14) ?_
                          refine RW.yl rfl rfl rfl (Yl.pickF rfl rfl rfl) ?_
                          refine RW.yl rfl rfl rfl (Yl.move rfl rfl) ?_
                          refine RW.skip rfl rfl rfl ?_
                          refine RW.skip rfl rfl rfl ?_
                          refine RW.yl rfl rfl rfl (Yl.pickT rfl rfl rfl) ?_
                          refine RW.yl rfl rfl rfl (Yl.move rfl rfl) ?_
                          refine RW.skip rfl rfl rfl ?_
                          refine RW.skip rfl rfl rfl ?_
                          refine RW.yl rfl rfl rfl (Yl.pickT rfl rfl rfl) ?_
                          refine RW.yl rfl rfl rfl (Yl.pickT rfl rfl rfl) ?_
                          refine RW.nil ?_
                          change CW _ _ _ _ _ _
                          refine CW.condT rfl ?_
                          refine CW.region ?_
                          refine RW.yl rfl rfl rfl (Yl.assign rfl rfl) ?_
                          refine RW.nil ?_
                          change CW _ _ _ _ _ _
                          refine CW.seq ?_
                          refine CW.seq ?_
                          refine CW.region ?_
                          refine RW.yl rfl rfl rfl (Yl.move rfl rfl) ?_
                          refine RW.yl rfl rfl rfl (Yl.eqb (Yl.eql rfl rfl rfl) (show (decide ((3 : Int) = 0)) = false by decide)) ?_
                          refine RW.nil ?_
                          change CW _ _ _ _ _ _
                          refine CW.condF rfl ?_
                          refine CW.skip ?_
                          change CW _ _ _ _ _ _
                          refine CW.seq ?_
                          refine CW.seq ?_
                          refine CW.region ?_
                          refine RW.yl rfl rfl rfl (Yl.move rfl rfl) ?_
                          refine RW.yl rfl rfl rfl (Yl.eqb (Yl.neq rfl rfl rfl) (show (!decide ((3 : Int) = 0)) = true by decide)) ?_
                          refine RW.nil ?_
                          change CW _ _ _ _ _ _
                          refine CW.condT rfl ?_
                          refine CW.seq ?_
                          rcases Bool.eq_false_or_eq_true (decide (((hidR c d i j).2) = 3)) with hg15 | hg15
                          ·
                            have hq13 := of_decide_eq_true hg15
                            first
                            | (exfalso; omega)
                            | (
                              refine CW.region ?_
                              refine RW.yl rfl rfl rfl (Yl.move rfl rfl) ?_
                              refine RW.yl rfl rfl rfl (Yl.move rfl rfl) ?_
                              refine RW.yl rfl rfl rfl (Yl.eqb (Yl.eql rfl rfl rfl) hg15) ?_
                              refine RW.yl rfl rfl rfl (Yl.move rfl rfl) ?_
                              refine RW.yl rfl rfl rfl (Yl.loadAgg (cs := [.slice ps1 (((hidR c d i j).1).length) cs1]) rfl rfl many24 (Blk.cells hK33)) ?_
                              refine RW.fn rfl rfl rfl (Yc.func #[.agg #[.slice ps1 (((hidR c d i j).1).length) cs1]] rfl ok18 (args1 rfl)) (c18 (hR5.wide (Nat.zero_le _) (by omega))) ?_
                              rintro _ w15 ⟨rfl, H11⟩
                              have hB15 := Bl.step hB12 H11
                              have hK42 := Blk.below hK30 H11
                              have hK43 := Blk.below hK31 H11
                              have hK44 := Blk.below hK32 H11
                              have hK45 := Blk.below hK33 H11
                              have hR8 := hR5.mono (kept_below H11 (by omega))
                              have hz11 := H11.size
                              refine RW.yl rfl rfl rfl (Yl.pickT rfl rfl rfl) ?_
                              refine RW.yl rfl rfl rfl (Yl.assign rfl rfl) ?_
                              refine RW.nil ?_
                              change CW _ _ _ _ _ _
                              refine CW.ret ?_
                              change FinQ _ _ _ _ _ _
                              refine fin1 (.inr rfl) rfl rfl ?_
                              exact ⟨_, rfl, bval (by first | rfl | exact decide_eq_true (by omega) | exact decide_eq_true (by assumption)), hB15⟩)
                          ·
                            have hq13 := of_decide_eq_false hg15
                            first
                            | (exfalso; omega)
                            | (
                              refine CW.region ?_
                              refine RW.yl rfl rfl rfl (Yl.move rfl rfl) ?_
                              refine RW.yl rfl rfl rfl (Yl.move rfl rfl) ?_
                              refine RW.yl rfl rfl rfl (Yl.eqb (Yl.eql rfl rfl rfl) hg15) ?_
                              refine RW.yl rfl rfl rfl (Yl.move rfl rfl) ?_
                              refine RW.skip rfl rfl rfl ?_
                              refine RW.skip rfl rfl rfl ?_
                              refine RW.yl rfl rfl rfl (Yl.pickF rfl rfl rfl) ?_
                              refine RW.yl rfl rfl rfl (Yl.assign rfl rfl) ?_
                              refine RW.nil ?_
                              change CW _ _ _ _ _ _
                              refine CW.ret ?_
                              change FinQ _ _ _ _ _ _
                              refine fin1 (.inr rfl) rfl rfl ?_
                              exact ⟨_, rfl, bval (by first | rfl | exact decide_eq_true (by omega) | exact decide_eq_true (by assumption)), hB12⟩))
                      ·
                        have hq12 := of_decide_eq_false hg14
                        first
                        | (exfalso; omega)
                        | (
                          rcases Bool.eq_false_or_eq_true (decide (j < 1)) with hg16 | hg16
                          ·
                            have hq14 := of_decide_eq_true hg16
                            have hk : hidR c d i j = ([], 3) := hidR_w hv_c hv_d hlen (by omega) (weights_no (by omega))
                            have hk1 : (hidR c d i j).1 = [] := by rw [hk]
                            have hk2 : (hidR c d i j).2 = 3 := by rw [hk]
                            have hk3 : (hidR c d i j).1.length = 0 := by rw [hk]; rfl
                            first
                            | (exfalso; omega)
                            | (
                              refine CW.region ?_
                              refine RW.yl rfl rfl rfl (Yl.move rfl rfl) ?_
                              refine RW.yl rfl rfl rfl (Yl.eqb (Yl.eql rfl rfl rfl) hg6) ?_
                              refine RW.yl rfl rfl rfl (Yl.move rfl rfl) ?_
                              refine RW.yl rfl rfl rfl (Yl.move rfl rfl) ?_
                              refine RW.yl rfl rfl rfl (Yl.eqb (Yl.lss rfl rfl rfl) hg12) ?_
                              refine RW.yl rfl rfl rfl (Yl.move rfl rfl) ?_
                              refine RW.yl rfl rfl rfl (Yl.move rfl rfl) ?_
                              refine RW.yl rfl rfl rfl (Yl.eqb (Yl.gtr rfl rfl rfl) hg14) ?_
                              refine RW.yl rfl rfl rfl (Yl.pickF rfl rfl rfl) ?_
                              refine RW.yl rfl rfl rfl (Yl.move rfl rfl) ?_
                              refine RW.yl rfl rfl rfl (Yl.move rfl rfl) ?_
                              refine RW.yl rfl rfl rfl (Yl.eqb (Yl.lss rfl rfl rfl) hg16) ?_
                              refine RW.yl rfl rfl rfl (Yl.pickF rfl rfl rfl) ?_
                              refine RW.yl rfl rfl rfl (Yl.move rfl rfl) ?_
                              refine RW.skip rfl rfl rfl ?_
                              refine RW.skip rfl rfl rfl ?_
                              refine RW.yl rfl rfl rfl (Yl.pickT rfl rfl rfl) ?_
                              refine RW.yl rfl rfl rfl (Yl.pickT rfl rfl rfl) ?_
                              refine RW.nil ?_
                              change CW _ _ _ _ _ _
                              refine CW.condT rfl ?_
                              refine CW.region ?_
                              refine RW.yl rfl rfl rfl (Yl.assign rfl rfl) ?_
                              refine RW.nil ?_
                              change CW _ _ _ _ _ _
                              refine CW.seq ?_
                              refine CW.seq ?_
                              refine CW.region ?_
                              refine RW.yl rfl rfl rfl (Yl.move rfl rfl) ?_
                              refine RW.yl rfl rfl rfl (Yl.eqb (Yl.eql rfl rfl rfl) (show (decide ((3 : Int) = 0)) = false by decide)) ?_
                              refine RW.nil ?_
                              change CW _ _ _ _ _ _
                              refine CW.condF rfl ?_
                              refine CW.skip ?_
                              change CW _ _ _ _ _ _
                              refine CW.seq ?_
                              refine CW.seq ?_
                              refine CW.region ?_
                              refine RW.yl rfl rfl rfl (Yl.move rfl rfl) ?_
                              refine RW.yl rfl rfl rfl (Yl.eqb (Yl.neq rfl rfl rfl) (show (!decide ((3 : Int) = 0)) = true by decide)) ?_
                              refine RW.nil ?_
                              change CW _ _ _ _ _ _
                              refine CW.condT rfl ?_
                              refine CW.seq ?_
                              rcases Bool.eq_false_or_eq_true (decide (((hidR c d i j).2) = 3)) with hg17 | hg17
                              ·
                                have hq15 := of_decide_eq_true hg17
                                first
                                | (exfalso; omega)
                                | (
                                  refine CW.region ?_
                                  refine RW.yl rfl rfl rfl (Yl.move rfl rfl) ?_
                                  refine RW.yl rfl rfl rfl (Yl.move rfl rfl) ?_
                                  refine RW.yl rfl rfl rfl (Yl.eqb (Yl.eql rfl rfl rfl) hg17) ?_
                                  refine RW.yl rfl rfl rfl (Yl.move rfl rfl) ?_
                                  refine RW.yl rfl rfl rfl (Yl.loadAgg (cs := [.slice ps1 (((hidR c d i j).1).length) cs1]) rfl rfl many24 (Blk.cells hK33)) ?_
                                  refine RW.fn rfl rfl rfl (Yc.func #[.agg #[.slice ps1 (((hidR c d i j).1).length) cs1]] rfl ok18 (args1 rfl)) (c18 (hR5.wide (Nat.zero_le _) (by omega))) ?_
                                  rintro _ w16 ⟨rfl, H12⟩
                                  have hB16 := Bl.step hB12 H12
                                  have hK46 := Blk.below hK30 H12
                                  have hK47 := Blk.below hK31 H12
                                  have hK48 := Blk.below hK32 H12
                                  have hK49 := Blk.below hK33 H12
                                  have hR9 := hR5.mono (kept_below H12 (by omega))
                                  have hz12 := H12.size
                                  refine RW.yl rfl rfl rfl (Yl.pickT rfl rfl rfl) ?_
                                  refine RW.yl rfl rfl rfl (Yl.assign rfl rfl) ?_
                                  refine RW.nil ?_
                                  change CW _ _ _ _ _ _
                                  refine CW.ret ?_
                                  change FinQ _ _ _ _ _ _
                                  refine fin1 (.inr rfl) rfl rfl ?_
                                  exact ⟨_, rfl, bval (by first | rfl | exact decide_eq_true (by omega) | exact decide_eq_true (by assumption)), hB16⟩)
                              ·
                                have hq15 := of_decide_eq_false hg17
                                first
                                | (exfalso; omega)
                                | (
                                  refine CW.region ?_
                                  refine RW.yl rfl rfl rfl (Yl.move rfl rfl) ?_
                                  refine RW.yl rfl rfl rfl (Yl.move rfl rfl) ?_
                                  refine RW.yl rfl rfl rfl (Yl.eqb (Yl.eql rfl rfl rfl) hg17) ?_
                                  refine RW.yl rfl rfl rfl (Yl.move rfl rfl) ?_
                                  refine RW.skip rfl rfl rfl ?_
                                  refine RW.skip rfl rfl rfl ?_
                                  refine RW.yl rfl rfl rfl (Yl.pickF rfl rfl rfl) ?_
                                  refine RW.yl rfl rfl rfl (Yl.assign rfl rfl) ?_
                                  refine RW.nil ?_
                                  change CW _ _ _ _ _ _
                                  refine CW.ret ?_
                                  change FinQ _ _ _ _ _ _
                                  refine fin1 (.inr rfl) rfl rfl ?_
                                  exact ⟨_, rfl, bval (by first | rfl | exact decide_eq_true (by omega) | exact decide_eq_true (by assumption)), hB12⟩))
                          ·
                            have hq14 := of_decide_eq_false hg16
                            first
                            | (exfalso; omega)
                            | (
                              refine CW.region ?_
                              refine RW.yl rfl rfl rfl (Yl.move rfl rfl) ?_
                              refine RW.yl rfl rfl rfl (Yl.eqb (Yl.eql rfl rfl rfl) hg6) ?_
                              refine RW.yl rfl rfl rfl (Yl.move rfl rfl) ?_
                              refine RW.yl rfl rfl rfl (Yl.move rfl rfl) ?_
                              refine RW.yl rfl rfl rfl (Yl.eqb (Yl.lss rfl rfl rfl) hg12) ?_
                              refine RW.yl rfl rfl rfl (Yl.move rfl rfl) ?_
                              refine RW.yl rfl rfl rfl (Yl.move rfl rfl) ?_
                              refine RW.yl rfl rfl rfl (Yl.eqb (Yl.gtr rfl rfl rfl) hg14) ?_
                              refine RW.yl rfl rfl rfl (Yl.pickF rfl rfl rfl) ?_
                              refine RW.yl rfl rfl rfl (Yl.move rfl rfl) ?_
                              refine RW.yl rfl rfl rfl (Yl.move rfl rfl) ?_
                              refine RW.yl rfl rfl rfl (Yl.eqb (Yl.lss rfl rfl rfl) hg16) ?_
                              refine RW.yl rfl rfl rfl (Yl.pickF rfl rfl rfl) ?_
                              refine RW.yl rfl rfl rfl (Yl.move rfl rfl) ?_
                              refine RW.yl rfl rfl rfl (Yl.move rfl rfl) ?_
                              refine RW.yl rfl rfl rfl (Yl.gtr rfl rfl rfl) ?_
                              refine RW.yl rfl rfl rfl (Yl.pickF rfl rfl rfl) ?_
                              refine RW.yl rfl rfl rfl (Yl.pickT rfl rfl rfl) ?_
                              refine RW.nil ?_
                              change CW _ _ _ _ _ _
                              refine CW.cond rfl ?_ ?_
                              ·
                                intro hg18
                                have hq17 := of_decide_eq_true hg18
                                have hk : hidR c d i j = ([], 3) := hidR_w hv_c hv_d hlen (by omega) (weights_no (by omega))
                                have hk1 : (hidR c d i j).1 = [] := by rw [hk]
                                have hk2 : (hidR c d i j).2 = 3 := by rw [hk]
                                have hk3 : (hidR c d i j).1.length = 0 := by rw [hk]; rfl
                                first
                                | (exfalso; omega)
                                | (
                                  refine CW.region ?_
                                  refine RW.yl rfl rfl rfl (Yl.assign rfl rfl) ?_
                                  refine RW.nil ?_
                                  change CW _ _ _ _ _ _
                                  refine CW.seq ?_
                                  refine CW.seq ?_
                                  refine CW.region ?_
                                  refine RW.yl rfl rfl rfl (Yl.move rfl rfl) ?_
                                  refine RW.yl rfl rfl rfl (Yl.eqb (Yl.eql rfl rfl rfl) (show (decide ((3 : Int) = 0)) = false by decide)) ?_
                                  refine RW.nil ?_
                                  change CW _ _ _ _ _ _
                                  refine CW.condF rfl ?_
                                  refine CW.skip ?_
                                  change CW _ _ _ _ _ _
                                  refine CW.seq ?_
                                  refine CW.seq ?_
                                  refine CW.region ?_
                                  refine RW.yl rfl rfl rfl (Yl.move rfl rfl) ?_
                                  refine RW.yl rfl rfl rfl (Yl.eqb (Yl.neq rfl rfl rfl) (show (!decide ((3 : Int) = 0)) = true by decide)) ?_
                                  refine RW.nil ?_
                                  change CW _ _ _ _ _ _
                                  refine CW.condT rfl ?_
                                  refine CW.seq ?_
                                  rcases Bool.eq_false_or_eq_true (decide (((hidR c d i j).2) = 3)) with hg19 | hg19
                                  ·
                                    have hq18 := of_decide_eq_true hg19
                                    first
                                    | (exfalso; omega)
                                    | (
                                      refine CW.region ?_
                                      refine RW.yl rfl rfl rfl (Yl.move rfl rfl) ?_
                                      refine RW.yl rfl rfl rfl (Yl.move rfl rfl) ?_
                                      refine RW.yl rfl rfl rfl (Yl.eqb (Yl.eql rfl rfl rfl) hg19) ?_
                                      refine RW.yl rfl rfl rfl (Yl.move rfl rfl) ?_
                                      refine RW.yl rfl rfl rfl (Yl.loadAgg (cs := [.slice ps1 (((hidR c d i j).1).length) cs1]) rfl rfl many24 (Blk.cells hK33)) ?_
                                      refine RW.fn rfl rfl rfl (Yc.func #[.agg #[.slice ps1 (((hidR c d i j).1).length) cs1]] rfl ok18 (args1 rfl)) (c18 (hR5.wide (Nat.zero_le _) (by omega))) ?_
                                      rintro _ w17 ⟨rfl, H13⟩
                                      have hB17 := Bl.step hB12 H13
                                      have hK50 := Blk.below hK30 H13
                                      have hK51 := Blk.below hK31 H13
                                      have hK52 := Blk.below hK32 H13
                                      have hK53 := Blk.below hK33 H13
                                      have hR10 := hR5.mono (kept_below H13 (by omega))
                                      have hz13 := H13.size
                                      refine RW.yl rfl rfl rfl (Yl.pickT rfl rfl rfl) ?_
                                      refine RW.yl rfl rfl rfl (Yl.assign rfl rfl) ?_
                                      refine RW.nil ?_
                                      change CW _ _ _ _ _ _
                                      refine CW.ret ?_
                                      change FinQ _ _ _ _ _ _
                                      refine fin1 (.inr rfl) rfl rfl ?_
                                      exact ⟨_, rfl, bval (by first | rfl | exact decide_eq_true (by omega) | exact decide_eq_true (by assumption)), hB17⟩)
                                  ·
                                    have hq18 := of_decide_eq_false hg19
                                    first
                                    | (exfalso; omega)
                                    | (
                                      refine CW.region ?_
                                      refine RW.yl rfl rfl rfl (Yl.move rfl rfl) ?_
                                      refine RW.yl rfl rfl rfl (Yl.move rfl rfl) ?_
                                      refine RW.yl rfl rfl rfl (Yl.eqb (Yl.eql rfl rfl rfl) hg19) ?_
                                      refine RW.yl rfl rfl rfl (Yl.move rfl rfl) ?_
                                      refine RW.skip rfl rfl rfl ?_
                                      refine RW.skip rfl rfl rfl ?_
                                      refine RW.yl rfl rfl rfl (Yl.pickF rfl rfl rfl) ?_
                                      refine RW.yl rfl rfl rfl (Yl.assign rfl rfl) ?_
                                      refine RW.nil ?_
                                      change CW _ _ _ _ _ _
                                      refine CW.ret ?_
                                      change FinQ _ _ _ _ _ _
                                      refine fin1 (.inr rfl) rfl rfl ?_
                                      exact ⟨_, rfl, bval (by first | rfl | exact decide_eq_true (by omega) | exact decide_eq_true (by assumption)), hB12⟩))
                              ·
                                intro hg20
                                have hq20 := of_decide_eq_false hg20
                                have hw : weightsB i j = true := weights_ok ⟨by assumption, by assumption, by assumption, by assumption⟩
                                have hm1 : 0 ≤ (i + j) * totG c ∧ (i + j) * totG c ≤ 200 * 1048576 := mul_bound ⟨by omega, by omega⟩ ⟨ht_c.1, ht_c.2.1⟩
                                have hm2 : 0 ≤ ((i + j) * totG c) * totG d ∧ ((i + j) * totG c) * totG d ≤ (200 * 1048576) * 1048576 := mul_bound hm1 ⟨ht_d.1, ht_d.2.1⟩
                                have ha : 0 ≤ i * totG d ∧ i * totG d ≤ 100 * 1048576 := mul_bound ⟨by omega, by omega⟩ ⟨ht_d.1, ht_d.2.1⟩
                                have hb : 0 ≤ j * totG c ∧ j * totG c ≤ 100 * 1048576 := mul_bound ⟨by omega, by omega⟩ ⟨ht_c.1, ht_c.2.1⟩
                                have hac : 0 ≤ (i * totG d) * worthM c ∧ (i * totG d) * worthM c ≤ (100 * 1048576) * 268435456 := mul_bound ha hwc
                                have hbd : 0 ≤ (j * totG c) * worthM d ∧ (j * totG c) * worthM d ≤ (100 * 1048576) * 268435456 := mul_bound hb hwd
                                first
                                | (exfalso; omega)
                                | (
                                  refine CW.skip ?_
                                  change CW _ _ _ _ _ _
                                  refine CW.seq ?_
                                  refine CW.seq ?_
                                  refine CW.region ?_
                                  refine RW.yl rfl rfl rfl (Yl.move rfl rfl) ?_
                                  refine RW.yl rfl rfl rfl (Yl.eqb (Yl.eql rfl rfl rfl) hg6) ?_
                                  refine RW.nil ?_
                                  change CW _ _ _ _ _ _
                                  refine CW.condT rfl ?_
                                  refine CW.draw 11 rfl (Kp []) (by kernel_rfl) ?_
                                  intro w18 H14
                                  have hB18 := Bl.step hB12 H14
                                  have hK54 := Blk.below hK30 H14
                                  have hK55 := Blk.below hK31 H14
                                  have hK56 := Blk.below hK32 H14
                                  have hK57 := Blk.below hK33 H14
                                  have hR11 := hR5.mono (kept_below H14 (by omega))
                                  have hz14 := H14.size
                                  have hS3 := Kp.refl [] w18
                                  refine RH.take 0 rfl (by kernel_rfl) rfl rfl rfl hS3 (fun W22 hW22 => Yl.move rfl rfl) ?_
                                  refine RH.take 1 rfl (by kernel_rfl) rfl rfl rfl hS3 (fun W23 hW23 => Yl.move rfl rfl) ?_
                                  refine RH.take 2 rfl (by kernel_rfl) rfl rfl rfl hS3 (fun W24 hW24 => Yl.add (m := i) (n := j) rfl rfl rfl (by omega)) ?_
                                  refine RH.take 3 rfl (by kernel_rfl) rfl rfl rfl hS3 (fun W25 hW25 => Yl.loadAgg (cs := [.slice p c.length cc]) rfl rfl many24 (Blk.cells (Kp.blk hW25 hK54 (by simp)))) ?_
                                  refine RH.take 6 rfl (by kernel_rfl) rfl rfl rfl hS3 (fun W27 hW27 => Yl.loadAgg (cs := [.slice p2 d.length cd]) rfl rfl many24 (Blk.cells (Kp.blk hW27 hK55 (by simp)))) ?_
                                  refine RH.one 4 (by kernel_rfl) ?_
                                  refine RO.fn rfl rfl rfl rfl (Yc.func #[.agg #[.slice p c.length cc]] rfl ok17 (args1 rfl)) (c17 ((hv.mono (kept_from hB0 hB18 (Nat.le_refl _))).wide (Nat.zero_le _) (by omega)) (validB_chanT hv_c)) ?_
                                  rintro _ w19 ⟨rfl, H15⟩
                                  have hS4 := Kp.step hS3 H15
                                  have hB19 := Bl.step hB18 H15
                                  have hK58 := Blk.below hK54 H15
                                  have hK59 := Blk.below hK55 H15
                                  have hK60 := Blk.below hK56 H15
                                  have hK61 := Blk.below hK57 H15
                                  have hR12 := hR11.mono (kept_below H15 (by omega))
                                  have hz15 := H15.size
                                  refine ⟨hS4, ?_⟩
                                  refine RH.take 5 rfl (by kernel_rfl) rfl rfl rfl hS4 (fun W29 hW29 => Yl.mul (m := i + j) (n := totG c) rfl rfl rfl (by omega)) ?_
                                  refine RH.one 7 (by kernel_rfl) ?_
                                  refine RO.fn rfl rfl rfl rfl (Yc.func #[.agg #[.slice p2 d.length cd]] rfl ok17 (args1 rfl)) (c17 ((hu.mono (kept_from hB0 hB19 (Nat.le_refl _))).wide (Nat.zero_le _) (by omega)) (validB_chanT hv_d)) ?_
                                  rintro _ w20 ⟨rfl, H16⟩
                                  have hS5 := Kp.step hS4 H16
                                  have hB20 := Bl.step hB19 H16
                                  have hK62 := Blk.below hK58 H16
                                  have hK63 := Blk.below hK59 H16
                                  have hK64 := Blk.below hK60 H16
                                  have hK65 := Blk.below hK61 H16
                                  have hR13 := hR12.mono (kept_below H16 (by omega))
                                  have hz16 := H16.size
                                  refine ⟨hS5, ?_⟩
                                  refine RH.take 8 rfl (by kernel_rfl) rfl rfl rfl hS5 (fun W31 hW31 => Yl.mul (m := (i + j) * (totG c)) (n := totG d) rfl rfl rfl (by omega)) ?_
                                  refine RH.one 9 (by kernel_rfl) ?_
                                  refine RO.fn rfl rfl rfl rfl (Yc.func #[.int .i64 1, .int .i64 (((i + j) * (totG c)) * (totG d))] rfl ok16 (args2 rfl rfl)) (c16) ?_
                                  rintro _ w21 ⟨rfl, H17⟩
                                  have hS6 := Kp.step hS5 H17
                                  have hB21 := Bl.step hB20 H17
                                  have hK66 := Blk.below hK62 H17
                                  have hK67 := Blk.below hK63 H17
                                  have hK68 := Blk.below hK64 H17
                                  have hK69 := Blk.below hK65 H17
                                  have hR14 := hR13.mono (kept_below H17 (by omega))
                                  have hz17 := H17.size
                                  refine ⟨hS6, ?_⟩
                                  refine RH.take 10 rfl (by kernel_rfl) rfl rfl rfl hS6 (fun W33 hW33 => Yl.assign rfl rfl) ?_
                                  refine RH.done (by kernel_rfl) ?_
                                  change CW _ _ _ _ _ _
                                  refine CW.seq ?_
                                  refine CW.seq ?_
                                  refine CW.region ?_
                                  refine RW.yl rfl rfl rfl (Yl.move rfl rfl) ?_
                                  refine RW.yl rfl rfl rfl (Yl.neq rfl rfl rfl) ?_
                                  refine RW.nil ?_
                                  change CW _ _ _ _ _ _
                                  refine CW.cond rfl ?_ ?_
                                  ·
                                    intro hg21
                                    have hg22 : decide ((limG 1 (((i + j) * (totG c)) * (totG d))) = 0) = false := not_t hg21
                                    have hq22 := of_decide_eq_false hg22
                                    have hk : hidR c d i j = ([], (limG 1 (((i + j) * totG c) * totG d))) := hidR_lim hv_c hv_d hlen (by omega) hw (of_decide_eq_false hg22)
                                    have hk1 : (hidR c d i j).1 = [] := by rw [hk]
                                    have hk2 : (hidR c d i j).2 = (limG 1 (((i + j) * totG c) * totG d)) := by rw [hk]
                                    have hk3 : (hidR c d i j).1.length = 0 := by rw [hk]; rfl
                                    first
                                    | (exfalso; omega)
                                    | (
                                      refine CW.seq ?_
                                      rcases Bool.eq_false_or_eq_true (decide (((hidR c d i j).2) = (limG 1 (((i + j) * (totG c)) * (totG d))))) with hg23 | hg23
                                      ·
                                        have hq23 := of_decide_eq_true hg23
                                        first
                                        | (exfalso; omega)
                                        | (
                                          refine CW.region ?_
                                          refine RW.yl rfl rfl rfl (Yl.move rfl rfl) ?_
                                          refine RW.yl rfl rfl rfl (Yl.move rfl rfl) ?_
                                          refine RW.yl rfl rfl rfl (Yl.eqb (Yl.eql rfl rfl rfl) hg23) ?_
                                          refine RW.yl rfl rfl rfl (Yl.move rfl rfl) ?_
                                          refine RW.yl rfl rfl rfl (Yl.loadAgg (cs := [.slice ps1 (((hidR c d i j).1).length) cs1]) rfl rfl many24 (Blk.cells hK69)) ?_
                                          refine RW.fn rfl rfl rfl (Yc.func #[.agg #[.slice ps1 (((hidR c d i j).1).length) cs1]] rfl ok18 (args1 rfl)) (c18 (hR14.wide (Nat.zero_le _) (by omega))) ?_
                                          rintro _ w22 ⟨rfl, H18⟩
                                          have hB22 := Bl.step hB21 H18
                                          have hK70 := Blk.below hK66 H18
                                          have hK71 := Blk.below hK67 H18
                                          have hK72 := Blk.below hK68 H18
                                          have hK73 := Blk.below hK69 H18
                                          have hR15 := hR14.mono (kept_below H18 (by omega))
                                          have hz18 := H18.size
                                          refine RW.yl rfl rfl rfl (Yl.pickT rfl rfl rfl) ?_
                                          refine RW.yl rfl rfl rfl (Yl.assign rfl rfl) ?_
                                          refine RW.nil ?_
                                          change CW _ _ _ _ _ _
                                          refine CW.ret ?_
                                          change FinQ _ _ _ _ _ _
                                          refine fin1 (.inr rfl) rfl rfl ?_
                                          exact ⟨_, rfl, bval (by first | rfl | exact decide_eq_true (by omega) | exact decide_eq_true (by assumption)), hB22⟩)
                                      ·
                                        have hq23 := of_decide_eq_false hg23
                                        first
                                        | (exfalso; omega)
                                        | (
                                          refine CW.region ?_
                                          refine RW.yl rfl rfl rfl (Yl.move rfl rfl) ?_
                                          refine RW.yl rfl rfl rfl (Yl.move rfl rfl) ?_
                                          refine RW.yl rfl rfl rfl (Yl.eqb (Yl.eql rfl rfl rfl) hg23) ?_
                                          refine RW.yl rfl rfl rfl (Yl.move rfl rfl) ?_
                                          refine RW.skip rfl rfl rfl ?_
                                          refine RW.skip rfl rfl rfl ?_
                                          refine RW.yl rfl rfl rfl (Yl.pickF rfl rfl rfl) ?_
                                          refine RW.yl rfl rfl rfl (Yl.assign rfl rfl) ?_
                                          refine RW.nil ?_
                                          change CW _ _ _ _ _ _
                                          refine CW.ret ?_
                                          change FinQ _ _ _ _ _ _
                                          refine fin1 (.inr rfl) rfl rfl ?_
                                          exact ⟨_, rfl, bval (by first | rfl | exact decide_eq_true (by omega) | exact decide_eq_true (by assumption)), hB21⟩))
                                  ·
                                    intro hg24
                                    have hg25 : decide ((limG 1 (((i + j) * (totG c)) * (totG d))) = 0) = true := not_f hg24
                                    have hq25 := of_decide_eq_true hg25
                                    have hk : hidR c d i j = ((hidT c d i j), 0) := hidR_ok hv_c hv_d hlen (by omega) hw (of_decide_eq_true hg25)
                                    have hk1 : (hidR c d i j).1 = (hidT c d i j) := by rw [hk]
                                    have hk2 : (hidR c d i j).2 = 0 := by rw [hk]
                                    have hv_p : validB ((hidR c d i j).1) = true := by rw [hk1]; exact (hid_facts hv_c hv_d hlen (by omega) (by omega) (by omega) (of_decide_eq_true hg25)).1
                                    have hwp := (hid_facts hv_c hv_d hlen (by omega) (by omega) (by omega) (of_decide_eq_true hg25)).2
                                    rw [← hk1] at hwp
                                    have hkq : decide ((hidR c d i j).1 = (tab (c.length) ((c[0]!).length) (fun x y => (i * (totG d)) * ((c[x]!)[y]!) + (j * (totG c)) * ((d[x]!)[y]!)))) = true := decide_eq_true hk1
                                    first
                                    | (exfalso; omega)
                                    | (
                                      refine CW.skip ?_
                                      change CW _ _ _ _ _ _
                                      refine CW.seq ?_
                                      refine CW.cut (fun E W => ∃ nb12_z1 : Nat, ∃ nb13_z2 : Nat, (Sub [(3, .pointer (some ⟨b1, 0, none⟩)), (4, .pointer (some ⟨b2, 0, none⟩)), (6, .bool false), (9, .pointer (some ⟨b4, 0, none⟩)), (10, .int .i64 ((hidR c d i j).2)), (12, .pointer (some ⟨nb12_z1, 0, none⟩)), (13, .pointer (some ⟨nb13_z2, 0, none⟩))] E) ∧ (Below w.heap.size w W) ∧ (Blk W b1 #[.slice p c.length cc] 24) ∧ (Blk W b2 #[.slice p2 d.length cd] 24) ∧ (Blk W b3 #[.int .i64 i, .int .i64 j] 39) ∧ (Blk W b4 #[.slice ps1 (((hidR c d i j).1).length) cs1] 24) ∧ (Blk W nb12_z1 #[.int .i64 (i * (totG d))] 3) ∧ (Blk W nb13_z2 #[.int .i64 (j * (totG c))] 3) ∧ (w.heap.size ≤ nb12_z1) ∧ (w.heap.size ≤ nb13_z2) ∧ (b1 ≠ nb12_z1) ∧ (b2 ≠ nb12_z1) ∧ (b3 ≠ nb12_z1) ∧ (b4 ≠ nb12_z1) ∧ (b1 ≠ nb13_z2) ∧ (b2 ≠ nb13_z2) ∧ (b3 ≠ nb13_z2) ∧ (b4 ≠ nb13_z2) ∧ (nb12_z1 ≠ nb13_z2) ∧ (RRows w7.heap.size w8.heap.size W (.slice ps1 (((hidR c d i j).1).length) cs1) ((hidR c d i j).1)) ∧ (w21.heap.size ≤ W.heap.size)) ?_ ?_
                                      ·
                                        refine CW.draw 12 rfl (Kp []) (by kernel_rfl) ?_
                                        intro w23 H19
                                        have hB23 := Bl.step hB21 H19
                                        have hK74 := Blk.below hK66 H19
                                        have hK75 := Blk.below hK67 H19
                                        have hK76 := Blk.below hK68 H19
                                        have hK77 := Blk.below hK69 H19
                                        have hR16 := hR14.mono (kept_below H19 (by omega))
                                        have hz19 := H19.size
                                        have hS7 := Kp.refl [] w23
                                        refine RH.take 0 rfl (by kernel_rfl) rfl rfl rfl hS7 (fun W34 hW34 => Yl.move rfl rfl) ?_
                                        refine RH.take 1 rfl (by kernel_rfl) rfl rfl rfl hS7 (fun W35 hW35 => Yl.loadAgg (cs := [.slice p2 d.length cd]) rfl rfl many24 (Blk.cells (Kp.blk hW35 hK75 (by simp)))) ?_
                                        refine RH.take 4 rfl (by kernel_rfl) rfl rfl rfl hS7 (fun W37 hW37 => Yl.move rfl rfl) ?_
                                        refine RH.take 5 rfl (by kernel_rfl) rfl rfl rfl hS7 (fun W39 hW39 => Yl.loadAgg (cs := [.slice p c.length cc]) rfl rfl many24 (Blk.cells (Kp.blk hW39 hK74 (by simp)))) ?_
                                        refine RH.three 2 8 9 (by kernel_rfl) ?_ ?_ ?_
                                        ·
                                          refine RO.fn rfl rfl rfl rfl (Yc.func #[.agg #[.slice p2 d.length cd]] rfl ok17 (args1 rfl)) (c17 ((hu.mono (kept_from hB0 hB23 (Nat.le_refl _))).wide (Nat.zero_le _) (by omega)) (validB_chanT hv_d)) ?_
                                          rintro _ w24 ⟨rfl, H20⟩
                                          have hS8 := Kp.step hS7 H20
                                          have hB24 := Bl.step hB23 H20
                                          have hK78 := Blk.below hK74 H20
                                          have hK79 := Blk.below hK75 H20
                                          have hK80 := Blk.below hK76 H20
                                          have hK81 := Blk.below hK77 H20
                                          have hR17 := hR16.mono (kept_below H20 (by omega))
                                          have hz20 := H20.size
                                          refine ⟨hS8, ?_⟩
                                          refine RH.take 3 rfl (by kernel_rfl) rfl rfl rfl hS8 (fun W43 hW43 => Yl.mul (m := i) (n := totG d) rfl rfl rfl (by omega)) ?_
                                          refine RH.three 6 8 9 (by kernel_rfl) ?_ ?_ ?_
                                          ·
                                            refine RO.fn rfl rfl rfl rfl (Yc.func #[.agg #[.slice p c.length cc]] rfl ok17 (args1 rfl)) (c17 ((hv.mono (kept_from hB0 hB24 (Nat.le_refl _))).wide (Nat.zero_le _) (by omega)) (validB_chanT hv_c)) ?_
                                            rintro _ w25 ⟨rfl, H21⟩
                                            have hS9 := Kp.step hS8 H21
                                            have hB25 := Bl.step hB24 H21
                                            have hK82 := Blk.below hK78 H21
                                            have hK83 := Blk.below hK79 H21
                                            have hK84 := Blk.below hK80 H21
                                            have hK85 := Blk.below hK81 H21
                                            have hR18 := hR17.mono (kept_below H21 (by omega))
                                            have hz21 := H21.size
                                            refine ⟨hS9, ?_⟩
                                            refine RH.take 7 rfl (by kernel_rfl) rfl rfl rfl hS9 (fun W47 hW47 => Yl.mul (m := j) (n := totG c) rfl rfl rfl (by omega)) ?_
                                            refine RH.two 8 9 (by kernel_rfl) ?_ ?_
                                            ·
                                              refine RO.newP rfl (cs := #[.int .i64 0]) (T := 3) rfl rfl rfl (Yv.alloc (z := .int .i64 0) rfl zero3) ?_
                                              intro b5 w26 N5
                                              have ne7 := New.ne N5 hK82
                                              have ne8 := New.ne N5 hK83
                                              have ne9 := New.ne N5 hK84
                                              have ne10 := New.ne N5 hK85
                                              have lo_b5 : w.heap.size ≤ b5 := by have := hB25.size; have := N5.num; omega
                                              have hn_b5 := N5.num
                                              have hs_b5 := N5.size
                                              have hS10 := Kp.step hS9 N5.below
                                              have hB26 := Bl.step hB25 N5.below
                                              have hK86 := Blk.below hK82 N5.below
                                              have hK87 := Blk.below hK83 N5.below
                                              have hK88 := Blk.below hK84 N5.below
                                              have hK89 := Blk.below hK85 N5.below
                                              have hR19 := hR18.mono (kept_below N5.below (by omega))
                                              refine ⟨hS10, ?_⟩
                                              refine RH.one 9 (by kernel_rfl) ?_
                                              refine RO.newP rfl (cs := #[.int .i64 0]) (T := 3) rfl rfl rfl (Yv.alloc (z := .int .i64 0) rfl zero3) ?_
                                              intro b6 w27 N6
                                              have ne11 := New.ne N6 hK86
                                              have ne12 := New.ne N6 hK87
                                              have ne13 := New.ne N6 hK88
                                              have ne14 := New.ne N6 hK89
                                              have ne15 := New.ne N6 N5.blk
                                              have lo_b6 : w.heap.size ≤ b6 := by have := hB26.size; have := N6.num; omega
                                              have hn_b6 := N6.num
                                              have hs_b6 := N6.size
                                              have hS11 := Kp.step hS10 N6.below
                                              have hB27 := Bl.step hB26 N6.below
                                              have hK90 := Blk.below hK86 N6.below
                                              have hK91 := Blk.below hK87 N6.below
                                              have hK92 := Blk.below hK88 N6.below
                                              have hK93 := Blk.below hK89 N6.below
                                              have hK94 := Blk.below N5.blk N6.below
                                              have hR20 := hR19.mono (kept_below N6.below (by omega))
                                              refine ⟨hS11, ?_⟩
                                              refine RH.one 10 (by kernel_rfl) ?_
                                              refine RO.sto rfl (v := .int .i64 (i * (totG d))) (j := 0) rfl rfl hK94 (Yu.store rfl rfl rfl rfl rfl sz3 hK94 (by simp)) ?_
                                              intro w28 H22
                                              have hS12 := Kp.sto hS11 H22 (.inr (by omega))
                                              have hB28 := Bl.sto hB27 H22 lo_b5
                                              have hK95 := Blk.sto hK90 H22 ne7
                                              have hK96 := Blk.sto hK91 H22 ne8
                                              have hK97 := Blk.sto hK92 H22 ne9
                                              have hK98 := Blk.sto hK93 H22 ne10
                                              have hK99 := H22.blk
                                              have hK100 := Blk.sto N6.blk H22 ne15.symm
                                              have hR21 := hR20.mono (kept_sto H22 (by omega) (by omega))
                                              have hz22 := H22.size
                                              refine ⟨hS12, ?_⟩
                                              refine RH.one 11 (by kernel_rfl) ?_
                                              refine RO.sto rfl (v := .int .i64 (j * (totG c))) (j := 0) rfl rfl hK100 (Yu.store rfl rfl rfl rfl rfl sz3 hK100 (by simp)) ?_
                                              intro w29 H23
                                              have hS13 := Kp.sto hS12 H23 (.inr (by omega))
                                              have hB29 := Bl.sto hB28 H23 lo_b6
                                              have hK101 := Blk.sto hK95 H23 ne11
                                              have hK102 := Blk.sto hK96 H23 ne12
                                              have hK103 := Blk.sto hK97 H23 ne13
                                              have hK104 := Blk.sto hK98 H23 ne14
                                              have hK105 := Blk.sto hK99 H23 ne15
                                              have hK106 := H23.blk
                                              have hR22 := hR21.mono (kept_sto H23 (by omega) (by omega))
                                              have hz23 := H23.size
                                              refine ⟨hS13, ?_⟩
                                              refine RH.done (by kernel_rfl) ?_
                                              exact ⟨b5, b6, Sub.cons rfl (Sub.cons rfl (Sub.cons rfl (Sub.cons rfl (Sub.cons rfl (Sub.cons rfl (Sub.cons rfl (Sub.nil))))))), hB29, hK101, hK102, hK103, hK104, hK105, hK106, lo_b5, lo_b6, ne7, ne8, ne9, ne10, ne11, ne12, ne13, ne14, ne15, hR22, (by omega)⟩
                                            ·
                                              refine RO.newP rfl (cs := #[.int .i64 0]) (T := 3) rfl rfl rfl (Yv.alloc (z := .int .i64 0) rfl zero3) ?_
                                              intro b7 w30 N7
                                              have ne16 := New.ne N7 hK82
                                              have ne17 := New.ne N7 hK83
                                              have ne18 := New.ne N7 hK84
                                              have ne19 := New.ne N7 hK85
                                              have lo_b7 : w.heap.size ≤ b7 := by have := hB25.size; have := N7.num; omega
                                              have hn_b7 := N7.num
                                              have hs_b7 := N7.size
                                              have hS14 := Kp.step hS9 N7.below
                                              have hB30 := Bl.step hB25 N7.below
                                              have hK107 := Blk.below hK82 N7.below
                                              have hK108 := Blk.below hK83 N7.below
                                              have hK109 := Blk.below hK84 N7.below
                                              have hK110 := Blk.below hK85 N7.below
                                              have hR23 := hR18.mono (kept_below N7.below (by omega))
                                              refine ⟨hS14, ?_⟩
                                              refine RH.one 8 (by kernel_rfl) ?_
                                              refine RO.newP rfl (cs := #[.int .i64 0]) (T := 3) rfl rfl rfl (Yv.alloc (z := .int .i64 0) rfl zero3) ?_
                                              intro b8 w31 N8
                                              have ne20 := New.ne N8 hK107
                                              have ne21 := New.ne N8 hK108
                                              have ne22 := New.ne N8 hK109
                                              have ne23 := New.ne N8 hK110
                                              have ne24 := New.ne N8 N7.blk
                                              have lo_b8 : w.heap.size ≤ b8 := by have := hB30.size; have := N8.num; omega
                                              have hn_b8 := N8.num
                                              have hs_b8 := N8.size
                                              have hS15 := Kp.step hS14 N8.below
                                              have hB31 := Bl.step hB30 N8.below
                                              have hK111 := Blk.below hK107 N8.below
                                              have hK112 := Blk.below hK108 N8.below
                                              have hK113 := Blk.below hK109 N8.below
                                              have hK114 := Blk.below hK110 N8.below
                                              have hK115 := Blk.below N7.blk N8.below
                                              have hR24 := hR23.mono (kept_below N8.below (by omega))
                                              refine ⟨hS15, ?_⟩
                                              refine RH.one 10 (by kernel_rfl) ?_
                                              refine RO.sto rfl (v := .int .i64 (i * (totG d))) (j := 0) rfl rfl N8.blk (Yu.store rfl rfl rfl rfl rfl sz3 N8.blk (by simp)) ?_
                                              intro w32 H24
                                              have hS16 := Kp.sto hS15 H24 (.inr (by omega))
                                              have hB32 := Bl.sto hB31 H24 lo_b8
                                              have hK116 := Blk.sto hK111 H24 ne20
                                              have hK117 := Blk.sto hK112 H24 ne21
                                              have hK118 := Blk.sto hK113 H24 ne22
                                              have hK119 := Blk.sto hK114 H24 ne23
                                              have hK120 := Blk.sto hK115 H24 ne24
                                              have hK121 := H24.blk
                                              have hR25 := hR24.mono (kept_sto H24 (by omega) (by omega))
                                              have hz24 := H24.size
                                              refine ⟨hS16, ?_⟩
                                              refine RH.one 11 (by kernel_rfl) ?_
                                              refine RO.sto rfl (v := .int .i64 (j * (totG c))) (j := 0) rfl rfl hK120 (Yu.store rfl rfl rfl rfl rfl sz3 hK120 (by simp)) ?_
                                              intro w33 H25
                                              have hS17 := Kp.sto hS16 H25 (.inr (by omega))
                                              have hB33 := Bl.sto hB32 H25 lo_b7
                                              have hK122 := Blk.sto hK116 H25 ne16
                                              have hK123 := Blk.sto hK117 H25 ne17
                                              have hK124 := Blk.sto hK118 H25 ne18
                                              have hK125 := Blk.sto hK119 H25 ne19
                                              have hK126 := H25.blk
                                              have hK127 := Blk.sto hK121 H25 ne24.symm
                                              have hR26 := hR25.mono (kept_sto H25 (by omega) (by omega))
                                              have hz25 := H25.size
                                              refine ⟨hS17, ?_⟩
                                              refine RH.done (by kernel_rfl) ?_
                                              exact ⟨b8, b7, Sub.cons rfl (Sub.cons rfl (Sub.cons rfl (Sub.cons rfl (Sub.cons rfl (Sub.cons rfl (Sub.cons rfl (Sub.nil))))))), hB33, hK122, hK123, hK124, hK125, hK127, hK126, lo_b8, lo_b7, ne20, ne21, ne22, ne23, ne16, ne17, ne18, ne19, ne24.symm, hR26, (by omega)⟩
                                          ·
                                            refine RO.newP rfl (cs := #[.int .i64 0]) (T := 3) rfl rfl rfl (Yv.alloc (z := .int .i64 0) rfl zero3) ?_
                                            intro b9 w34 N9
                                            have ne25 := New.ne N9 hK78
                                            have ne26 := New.ne N9 hK79
                                            have ne27 := New.ne N9 hK80
                                            have ne28 := New.ne N9 hK81
                                            have lo_b9 : w.heap.size ≤ b9 := by have := hB24.size; have := N9.num; omega
                                            have hn_b9 := N9.num
                                            have hs_b9 := N9.size
                                            have hS18 := Kp.step hS8 N9.below
                                            have hB34 := Bl.step hB24 N9.below
                                            have hK128 := Blk.below hK78 N9.below
                                            have hK129 := Blk.below hK79 N9.below
                                            have hK130 := Blk.below hK80 N9.below
                                            have hK131 := Blk.below hK81 N9.below
                                            have hR27 := hR17.mono (kept_below N9.below (by omega))
                                            refine ⟨hS18, ?_⟩
                                            refine RH.two 6 9 (by kernel_rfl) ?_ ?_
                                            ·
                                              refine RO.fn rfl rfl rfl rfl (Yc.func #[.agg #[.slice p c.length cc]] rfl ok17 (args1 rfl)) (c17 ((hv.mono (kept_from hB0 hB34 (Nat.le_refl _))).wide (Nat.zero_le _) (by omega)) (validB_chanT hv_c)) ?_
                                              rintro _ w35 ⟨rfl, H26⟩
                                              have hS19 := Kp.step hS18 H26
                                              have hB35 := Bl.step hB34 H26
                                              have hK132 := Blk.below hK128 H26
                                              have hK133 := Blk.below hK129 H26
                                              have hK134 := Blk.below hK130 H26
                                              have hK135 := Blk.below hK131 H26
                                              have hK136 := Blk.below N9.blk H26
                                              have hR28 := hR27.mono (kept_below H26 (by omega))
                                              have hz26 := H26.size
                                              refine ⟨hS19, ?_⟩
                                              refine RH.take 7 rfl (by kernel_rfl) rfl rfl rfl hS19 (fun W54 hW54 => Yl.mul (m := j) (n := totG c) rfl rfl rfl (by omega)) ?_
                                              refine RH.one 9 (by kernel_rfl) ?_
                                              refine RO.newP rfl (cs := #[.int .i64 0]) (T := 3) rfl rfl rfl (Yv.alloc (z := .int .i64 0) rfl zero3) ?_
                                              intro b10 w36 N10
                                              have ne29 := New.ne N10 hK132
                                              have ne30 := New.ne N10 hK133
                                              have ne31 := New.ne N10 hK134
                                              have ne32 := New.ne N10 hK135
                                              have ne33 := New.ne N10 hK136
                                              have lo_b10 : w.heap.size ≤ b10 := by have := hB35.size; have := N10.num; omega
                                              have hn_b10 := N10.num
                                              have hs_b10 := N10.size
                                              have hS20 := Kp.step hS19 N10.below
                                              have hB36 := Bl.step hB35 N10.below
                                              have hK137 := Blk.below hK132 N10.below
                                              have hK138 := Blk.below hK133 N10.below
                                              have hK139 := Blk.below hK134 N10.below
                                              have hK140 := Blk.below hK135 N10.below
                                              have hK141 := Blk.below hK136 N10.below
                                              have hR29 := hR28.mono (kept_below N10.below (by omega))
                                              refine ⟨hS20, ?_⟩
                                              refine RH.one 10 (by kernel_rfl) ?_
                                              refine RO.sto rfl (v := .int .i64 (i * (totG d))) (j := 0) rfl rfl hK141 (Yu.store rfl rfl rfl rfl rfl sz3 hK141 (by simp)) ?_
                                              intro w37 H27
                                              have hS21 := Kp.sto hS20 H27 (.inr (by omega))
                                              have hB37 := Bl.sto hB36 H27 lo_b9
                                              have hK142 := Blk.sto hK137 H27 ne25
                                              have hK143 := Blk.sto hK138 H27 ne26
                                              have hK144 := Blk.sto hK139 H27 ne27
                                              have hK145 := Blk.sto hK140 H27 ne28
                                              have hK146 := H27.blk
                                              have hK147 := Blk.sto N10.blk H27 ne33.symm
                                              have hR30 := hR29.mono (kept_sto H27 (by omega) (by omega))
                                              have hz27 := H27.size
                                              refine ⟨hS21, ?_⟩
                                              refine RH.one 11 (by kernel_rfl) ?_
                                              refine RO.sto rfl (v := .int .i64 (j * (totG c))) (j := 0) rfl rfl hK147 (Yu.store rfl rfl rfl rfl rfl sz3 hK147 (by simp)) ?_
                                              intro w38 H28
                                              have hS22 := Kp.sto hS21 H28 (.inr (by omega))
                                              have hB38 := Bl.sto hB37 H28 lo_b10
                                              have hK148 := Blk.sto hK142 H28 ne29
                                              have hK149 := Blk.sto hK143 H28 ne30
                                              have hK150 := Blk.sto hK144 H28 ne31
                                              have hK151 := Blk.sto hK145 H28 ne32
                                              have hK152 := Blk.sto hK146 H28 ne33
                                              have hK153 := H28.blk
                                              have hR31 := hR30.mono (kept_sto H28 (by omega) (by omega))
                                              have hz28 := H28.size
                                              refine ⟨hS22, ?_⟩
                                              refine RH.done (by kernel_rfl) ?_
                                              exact ⟨b9, b10, Sub.cons rfl (Sub.cons rfl (Sub.cons rfl (Sub.cons rfl (Sub.cons rfl (Sub.cons rfl (Sub.cons rfl (Sub.nil))))))), hB38, hK148, hK149, hK150, hK151, hK152, hK153, lo_b9, lo_b10, ne25, ne26, ne27, ne28, ne29, ne30, ne31, ne32, ne33, hR31, (by omega)⟩
                                            ·
                                              refine RO.newP rfl (cs := #[.int .i64 0]) (T := 3) rfl rfl rfl (Yv.alloc (z := .int .i64 0) rfl zero3) ?_
                                              intro b11 w39 N11
                                              have ne34 := New.ne N11 hK128
                                              have ne35 := New.ne N11 hK129
                                              have ne36 := New.ne N11 hK130
                                              have ne37 := New.ne N11 hK131
                                              have ne38 := New.ne N11 N9.blk
                                              have lo_b11 : w.heap.size ≤ b11 := by have := hB34.size; have := N11.num; omega
                                              have hn_b11 := N11.num
                                              have hs_b11 := N11.size
                                              have hS23 := Kp.step hS18 N11.below
                                              have hB39 := Bl.step hB34 N11.below
                                              have hK154 := Blk.below hK128 N11.below
                                              have hK155 := Blk.below hK129 N11.below
                                              have hK156 := Blk.below hK130 N11.below
                                              have hK157 := Blk.below hK131 N11.below
                                              have hK158 := Blk.below N9.blk N11.below
                                              have hR32 := hR27.mono (kept_below N11.below (by omega))
                                              refine ⟨hS23, ?_⟩
                                              refine RH.one 6 (by kernel_rfl) ?_
                                              refine RO.fn rfl rfl rfl rfl (Yc.func #[.agg #[.slice p c.length cc]] rfl ok17 (args1 rfl)) (c17 ((hv.mono (kept_from hB0 hB39 (Nat.le_refl _))).wide (Nat.zero_le _) (by omega)) (validB_chanT hv_c)) ?_
                                              rintro _ w40 ⟨rfl, H29⟩
                                              have hS24 := Kp.step hS23 H29
                                              have hB40 := Bl.step hB39 H29
                                              have hK159 := Blk.below hK154 H29
                                              have hK160 := Blk.below hK155 H29
                                              have hK161 := Blk.below hK156 H29
                                              have hK162 := Blk.below hK157 H29
                                              have hK163 := Blk.below hK158 H29
                                              have hK164 := Blk.below N11.blk H29
                                              have hR33 := hR32.mono (kept_below H29 (by omega))
                                              have hz29 := H29.size
                                              refine ⟨hS24, ?_⟩
                                              refine RH.take 7 rfl (by kernel_rfl) rfl rfl rfl hS24 (fun W57 hW57 => Yl.mul (m := j) (n := totG c) rfl rfl rfl (by omega)) ?_
                                              refine RH.one 10 (by kernel_rfl) ?_
                                              refine RO.sto rfl (v := .int .i64 (i * (totG d))) (j := 0) rfl rfl hK163 (Yu.store rfl rfl rfl rfl rfl sz3 hK163 (by simp)) ?_
                                              intro w41 H30
                                              have hS25 := Kp.sto hS24 H30 (.inr (by omega))
                                              have hB41 := Bl.sto hB40 H30 lo_b9
                                              have hK165 := Blk.sto hK159 H30 ne25
                                              have hK166 := Blk.sto hK160 H30 ne26
                                              have hK167 := Blk.sto hK161 H30 ne27
                                              have hK168 := Blk.sto hK162 H30 ne28
                                              have hK169 := H30.blk
                                              have hK170 := Blk.sto hK164 H30 ne38.symm
                                              have hR34 := hR33.mono (kept_sto H30 (by omega) (by omega))
                                              have hz30 := H30.size
                                              refine ⟨hS25, ?_⟩
                                              refine RH.one 11 (by kernel_rfl) ?_
                                              refine RO.sto rfl (v := .int .i64 (j * (totG c))) (j := 0) rfl rfl hK170 (Yu.store rfl rfl rfl rfl rfl sz3 hK170 (by simp)) ?_
                                              intro w42 H31
                                              have hS26 := Kp.sto hS25 H31 (.inr (by omega))
                                              have hB42 := Bl.sto hB41 H31 lo_b11
                                              have hK171 := Blk.sto hK165 H31 ne34
                                              have hK172 := Blk.sto hK166 H31 ne35
                                              have hK173 := Blk.sto hK167 H31 ne36
                                              have hK174 := Blk.sto hK168 H31 ne37
                                              have hK175 := Blk.sto hK169 H31 ne38
                                              have hK176 := H31.blk
                                              have hR35 := hR34.mono (kept_sto H31 (by omega) (by omega))
                                              have hz31 := H31.size
                                              refine ⟨hS26, ?_⟩
                                              refine RH.done (by kernel_rfl) ?_
                                              exact ⟨b9, b11, Sub.cons rfl (Sub.cons rfl (Sub.cons rfl (Sub.cons rfl (Sub.cons rfl (Sub.cons rfl (Sub.cons rfl (Sub.nil))))))), hB42, hK171, hK172, hK173, hK174, hK175, hK176, lo_b9, lo_b11, ne25, ne26, ne27, ne28, ne34, ne35, ne36, ne37, ne38, hR35, (by omega)⟩
                                          ·
                                            refine RO.newP rfl (cs := #[.int .i64 0]) (T := 3) rfl rfl rfl (Yv.alloc (z := .int .i64 0) rfl zero3) ?_
                                            intro b12 w43 N12
                                            have ne39 := New.ne N12 hK78
                                            have ne40 := New.ne N12 hK79
                                            have ne41 := New.ne N12 hK80
                                            have ne42 := New.ne N12 hK81
                                            have lo_b12 : w.heap.size ≤ b12 := by have := hB24.size; have := N12.num; omega
                                            have hn_b12 := N12.num
                                            have hs_b12 := N12.size
                                            have hS27 := Kp.step hS8 N12.below
                                            have hB43 := Bl.step hB24 N12.below
                                            have hK177 := Blk.below hK78 N12.below
                                            have hK178 := Blk.below hK79 N12.below
                                            have hK179 := Blk.below hK80 N12.below
                                            have hK180 := Blk.below hK81 N12.below
                                            have hR36 := hR17.mono (kept_below N12.below (by omega))
                                            refine ⟨hS27, ?_⟩
                                            refine RH.two 6 8 (by kernel_rfl) ?_ ?_
                                            ·
                                              refine RO.fn rfl rfl rfl rfl (Yc.func #[.agg #[.slice p c.length cc]] rfl ok17 (args1 rfl)) (c17 ((hv.mono (kept_from hB0 hB43 (Nat.le_refl _))).wide (Nat.zero_le _) (by omega)) (validB_chanT hv_c)) ?_
                                              rintro _ w44 ⟨rfl, H32⟩
                                              have hS28 := Kp.step hS27 H32
                                              have hB44 := Bl.step hB43 H32
                                              have hK181 := Blk.below hK177 H32
                                              have hK182 := Blk.below hK178 H32
                                              have hK183 := Blk.below hK179 H32
                                              have hK184 := Blk.below hK180 H32
                                              have hK185 := Blk.below N12.blk H32
                                              have hR37 := hR36.mono (kept_below H32 (by omega))
                                              have hz32 := H32.size
                                              refine ⟨hS28, ?_⟩
                                              refine RH.take 7 rfl (by kernel_rfl) rfl rfl rfl hS28 (fun W60 hW60 => Yl.mul (m := j) (n := totG c) rfl rfl rfl (by omega)) ?_
                                              refine RH.one 8 (by kernel_rfl) ?_
                                              refine RO.newP rfl (cs := #[.int .i64 0]) (T := 3) rfl rfl rfl (Yv.alloc (z := .int .i64 0) rfl zero3) ?_
                                              intro b13 w45 N13
                                              have ne43 := New.ne N13 hK181
                                              have ne44 := New.ne N13 hK182
                                              have ne45 := New.ne N13 hK183
                                              have ne46 := New.ne N13 hK184
                                              have ne47 := New.ne N13 hK185
                                              have lo_b13 : w.heap.size ≤ b13 := by have := hB44.size; have := N13.num; omega
                                              have hn_b13 := N13.num
                                              have hs_b13 := N13.size
                                              have hS29 := Kp.step hS28 N13.below
                                              have hB45 := Bl.step hB44 N13.below
                                              have hK186 := Blk.below hK181 N13.below
                                              have hK187 := Blk.below hK182 N13.below
                                              have hK188 := Blk.below hK183 N13.below
                                              have hK189 := Blk.below hK184 N13.below
                                              have hK190 := Blk.below hK185 N13.below
                                              have hR38 := hR37.mono (kept_below N13.below (by omega))
                                              refine ⟨hS29, ?_⟩
                                              refine RH.one 10 (by kernel_rfl) ?_
                                              refine RO.sto rfl (v := .int .i64 (i * (totG d))) (j := 0) rfl rfl N13.blk (Yu.store rfl rfl rfl rfl rfl sz3 N13.blk (by simp)) ?_
                                              intro w46 H33
                                              have hS30 := Kp.sto hS29 H33 (.inr (by omega))
                                              have hB46 := Bl.sto hB45 H33 lo_b13
                                              have hK191 := Blk.sto hK186 H33 ne43
                                              have hK192 := Blk.sto hK187 H33 ne44
                                              have hK193 := Blk.sto hK188 H33 ne45
                                              have hK194 := Blk.sto hK189 H33 ne46
                                              have hK195 := Blk.sto hK190 H33 ne47
                                              have hK196 := H33.blk
                                              have hR39 := hR38.mono (kept_sto H33 (by omega) (by omega))
                                              have hz33 := H33.size
                                              refine ⟨hS30, ?_⟩
                                              refine RH.one 11 (by kernel_rfl) ?_
                                              refine RO.sto rfl (v := .int .i64 (j * (totG c))) (j := 0) rfl rfl hK195 (Yu.store rfl rfl rfl rfl rfl sz3 hK195 (by simp)) ?_
                                              intro w47 H34
                                              have hS31 := Kp.sto hS30 H34 (.inr (by omega))
                                              have hB47 := Bl.sto hB46 H34 lo_b12
                                              have hK197 := Blk.sto hK191 H34 ne39
                                              have hK198 := Blk.sto hK192 H34 ne40
                                              have hK199 := Blk.sto hK193 H34 ne41
                                              have hK200 := Blk.sto hK194 H34 ne42
                                              have hK201 := H34.blk
                                              have hK202 := Blk.sto hK196 H34 ne47.symm
                                              have hR40 := hR39.mono (kept_sto H34 (by omega) (by omega))
                                              have hz34 := H34.size
                                              refine ⟨hS31, ?_⟩
                                              refine RH.done (by kernel_rfl) ?_
                                              exact ⟨b13, b12, Sub.cons rfl (Sub.cons rfl (Sub.cons rfl (Sub.cons rfl (Sub.cons rfl (Sub.cons rfl (Sub.cons rfl (Sub.nil))))))), hB47, hK197, hK198, hK199, hK200, hK202, hK201, lo_b13, lo_b12, ne43, ne44, ne45, ne46, ne39, ne40, ne41, ne42, ne47.symm, hR40, (by omega)⟩
                                            ·
                                              refine RO.newP rfl (cs := #[.int .i64 0]) (T := 3) rfl rfl rfl (Yv.alloc (z := .int .i64 0) rfl zero3) ?_
                                              intro b14 w48 N14
                                              have ne48 := New.ne N14 hK177
                                              have ne49 := New.ne N14 hK178
                                              have ne50 := New.ne N14 hK179
                                              have ne51 := New.ne N14 hK180
                                              have ne52 := New.ne N14 N12.blk
                                              have lo_b14 : w.heap.size ≤ b14 := by have := hB43.size; have := N14.num; omega
                                              have hn_b14 := N14.num
                                              have hs_b14 := N14.size
                                              have hS32 := Kp.step hS27 N14.below
                                              have hB48 := Bl.step hB43 N14.below
                                              have hK203 := Blk.below hK177 N14.below
                                              have hK204 := Blk.below hK178 N14.below
                                              have hK205 := Blk.below hK179 N14.below
                                              have hK206 := Blk.below hK180 N14.below
                                              have hK207 := Blk.below N12.blk N14.below
                                              have hR41 := hR36.mono (kept_below N14.below (by omega))
                                              refine ⟨hS32, ?_⟩
                                              refine RH.one 6 (by kernel_rfl) ?_
                                              refine RO.fn rfl rfl rfl rfl (Yc.func #[.agg #[.slice p c.length cc]] rfl ok17 (args1 rfl)) (c17 ((hv.mono (kept_from hB0 hB48 (Nat.le_refl _))).wide (Nat.zero_le _) (by omega)) (validB_chanT hv_c)) ?_
                                              rintro _ w49 ⟨rfl, H35⟩
                                              have hS33 := Kp.step hS32 H35
                                              have hB49 := Bl.step hB48 H35
                                              have hK208 := Blk.below hK203 H35
                                              have hK209 := Blk.below hK204 H35
                                              have hK210 := Blk.below hK205 H35
                                              have hK211 := Blk.below hK206 H35
                                              have hK212 := Blk.below hK207 H35
                                              have hK213 := Blk.below N14.blk H35
                                              have hR42 := hR41.mono (kept_below H35 (by omega))
                                              have hz35 := H35.size
                                              refine ⟨hS33, ?_⟩
                                              refine RH.take 7 rfl (by kernel_rfl) rfl rfl rfl hS33 (fun W63 hW63 => Yl.mul (m := j) (n := totG c) rfl rfl rfl (by omega)) ?_
                                              refine RH.one 10 (by kernel_rfl) ?_
                                              refine RO.sto rfl (v := .int .i64 (i * (totG d))) (j := 0) rfl rfl hK213 (Yu.store rfl rfl rfl rfl rfl sz3 hK213 (by simp)) ?_
                                              intro w50 H36
                                              have hS34 := Kp.sto hS33 H36 (.inr (by omega))
                                              have hB50 := Bl.sto hB49 H36 lo_b14
                                              have hK214 := Blk.sto hK208 H36 ne48
                                              have hK215 := Blk.sto hK209 H36 ne49
                                              have hK216 := Blk.sto hK210 H36 ne50
                                              have hK217 := Blk.sto hK211 H36 ne51
                                              have hK218 := Blk.sto hK212 H36 ne52
                                              have hK219 := H36.blk
                                              have hR43 := hR42.mono (kept_sto H36 (by omega) (by omega))
                                              have hz36 := H36.size
                                              refine ⟨hS34, ?_⟩
                                              refine RH.one 11 (by kernel_rfl) ?_
                                              refine RO.sto rfl (v := .int .i64 (j * (totG c))) (j := 0) rfl rfl hK218 (Yu.store rfl rfl rfl rfl rfl sz3 hK218 (by simp)) ?_
                                              intro w51 H37
                                              have hS35 := Kp.sto hS34 H37 (.inr (by omega))
                                              have hB51 := Bl.sto hB50 H37 lo_b12
                                              have hK220 := Blk.sto hK214 H37 ne39
                                              have hK221 := Blk.sto hK215 H37 ne40
                                              have hK222 := Blk.sto hK216 H37 ne41
                                              have hK223 := Blk.sto hK217 H37 ne42
                                              have hK224 := H37.blk
                                              have hK225 := Blk.sto hK219 H37 ne52.symm
                                              have hR44 := hR43.mono (kept_sto H37 (by omega) (by omega))
                                              have hz37 := H37.size
                                              refine ⟨hS35, ?_⟩
                                              refine RH.done (by kernel_rfl) ?_
                                              exact ⟨b14, b12, Sub.cons rfl (Sub.cons rfl (Sub.cons rfl (Sub.cons rfl (Sub.cons rfl (Sub.cons rfl (Sub.cons rfl (Sub.nil))))))), hB51, hK220, hK221, hK222, hK223, hK225, hK224, lo_b14, lo_b12, ne48, ne49, ne50, ne51, ne39, ne40, ne41, ne42, ne52.symm, hR44, (by omega)⟩
                                        ·
                                          refine RO.newP rfl (cs := #[.int .i64 0]) (T := 3) rfl rfl rfl (Yv.alloc (z := .int .i64 0) rfl zero3) ?_
                                          intro b15 w52 N15
                                          have ne53 := New.ne N15 hK74
                                          have ne54 := New.ne N15 hK75
                                          have ne55 := New.ne N15 hK76
                                          have ne56 := New.ne N15 hK77
                                          have lo_b15 : w.heap.size ≤ b15 := by have := hB23.size; have := N15.num; omega
                                          have hn_b15 := N15.num
                                          have hs_b15 := N15.size
                                          have hS36 := Kp.step hS7 N15.below
                                          have hB52 := Bl.step hB23 N15.below
                                          have hK226 := Blk.below hK74 N15.below
                                          have hK227 := Blk.below hK75 N15.below
                                          have hK228 := Blk.below hK76 N15.below
                                          have hK229 := Blk.below hK77 N15.below
                                          have hR45 := hR16.mono (kept_below N15.below (by omega))
                                          refine ⟨hS36, ?_⟩
                                          refine RH.two 2 9 (by kernel_rfl) ?_ ?_
                                          ·
                                            refine RO.fn rfl rfl rfl rfl (Yc.func #[.agg #[.slice p2 d.length cd]] rfl ok17 (args1 rfl)) (c17 ((hu.mono (kept_from hB0 hB52 (Nat.le_refl _))).wide (Nat.zero_le _) (by omega)) (validB_chanT hv_d)) ?_
                                            rintro _ w53 ⟨rfl, H38⟩
                                            have hS37 := Kp.step hS36 H38
                                            have hB53 := Bl.step hB52 H38
                                            have hK230 := Blk.below hK226 H38
                                            have hK231 := Blk.below hK227 H38
                                            have hK232 := Blk.below hK228 H38
                                            have hK233 := Blk.below hK229 H38
                                            have hK234 := Blk.below N15.blk H38
                                            have hR46 := hR45.mono (kept_below H38 (by omega))
                                            have hz38 := H38.size
                                            refine ⟨hS37, ?_⟩
                                            refine RH.take 3 rfl (by kernel_rfl) rfl rfl rfl hS37 (fun W66 hW66 => Yl.mul (m := i) (n := totG d) rfl rfl rfl (by omega)) ?_
                                            refine RH.two 6 9 (by kernel_rfl) ?_ ?_
                                            ·
                                              refine RO.fn rfl rfl rfl rfl (Yc.func #[.agg #[.slice p c.length cc]] rfl ok17 (args1 rfl)) (c17 ((hv.mono (kept_from hB0 hB53 (Nat.le_refl _))).wide (Nat.zero_le _) (by omega)) (validB_chanT hv_c)) ?_
                                              rintro _ w54 ⟨rfl, H39⟩
                                              have hS38 := Kp.step hS37 H39
                                              have hB54 := Bl.step hB53 H39
                                              have hK235 := Blk.below hK230 H39
                                              have hK236 := Blk.below hK231 H39
                                              have hK237 := Blk.below hK232 H39
                                              have hK238 := Blk.below hK233 H39
                                              have hK239 := Blk.below hK234 H39
                                              have hR47 := hR46.mono (kept_below H39 (by omega))
                                              have hz39 := H39.size
                                              refine ⟨hS38, ?_⟩
                                              refine RH.take 7 rfl (by kernel_rfl) rfl rfl rfl hS38 (fun W69 hW69 => Yl.mul (m := j) (n := totG c) rfl rfl rfl (by omega)) ?_
                                              refine RH.one 9 (by kernel_rfl) ?_
                                              refine RO.newP rfl (cs := #[.int .i64 0]) (T := 3) rfl rfl rfl (Yv.alloc (z := .int .i64 0) rfl zero3) ?_
                                              intro b16 w55 N16
                                              have ne57 := New.ne N16 hK235
                                              have ne58 := New.ne N16 hK236
                                              have ne59 := New.ne N16 hK237
                                              have ne60 := New.ne N16 hK238
                                              have ne61 := New.ne N16 hK239
                                              have lo_b16 : w.heap.size ≤ b16 := by have := hB54.size; have := N16.num; omega
                                              have hn_b16 := N16.num
                                              have hs_b16 := N16.size
                                              have hS39 := Kp.step hS38 N16.below
                                              have hB55 := Bl.step hB54 N16.below
                                              have hK240 := Blk.below hK235 N16.below
                                              have hK241 := Blk.below hK236 N16.below
                                              have hK242 := Blk.below hK237 N16.below
                                              have hK243 := Blk.below hK238 N16.below
                                              have hK244 := Blk.below hK239 N16.below
                                              have hR48 := hR47.mono (kept_below N16.below (by omega))
                                              refine ⟨hS39, ?_⟩
                                              refine RH.one 10 (by kernel_rfl) ?_
                                              refine RO.sto rfl (v := .int .i64 (i * (totG d))) (j := 0) rfl rfl hK244 (Yu.store rfl rfl rfl rfl rfl sz3 hK244 (by simp)) ?_
                                              intro w56 H40
                                              have hS40 := Kp.sto hS39 H40 (.inr (by omega))
                                              have hB56 := Bl.sto hB55 H40 lo_b15
                                              have hK245 := Blk.sto hK240 H40 ne53
                                              have hK246 := Blk.sto hK241 H40 ne54
                                              have hK247 := Blk.sto hK242 H40 ne55
                                              have hK248 := Blk.sto hK243 H40 ne56
                                              have hK249 := H40.blk
                                              have hK250 := Blk.sto N16.blk H40 ne61.symm
                                              have hR49 := hR48.mono (kept_sto H40 (by omega) (by omega))
                                              have hz40 := H40.size
                                              refine ⟨hS40, ?_⟩
                                              refine RH.one 11 (by kernel_rfl) ?_
                                              refine RO.sto rfl (v := .int .i64 (j * (totG c))) (j := 0) rfl rfl hK250 (Yu.store rfl rfl rfl rfl rfl sz3 hK250 (by simp)) ?_
                                              intro w57 H41
                                              have hS41 := Kp.sto hS40 H41 (.inr (by omega))
                                              have hB57 := Bl.sto hB56 H41 lo_b16
                                              have hK251 := Blk.sto hK245 H41 ne57
                                              have hK252 := Blk.sto hK246 H41 ne58
                                              have hK253 := Blk.sto hK247 H41 ne59
                                              have hK254 := Blk.sto hK248 H41 ne60
                                              have hK255 := Blk.sto hK249 H41 ne61
                                              have hK256 := H41.blk
                                              have hR50 := hR49.mono (kept_sto H41 (by omega) (by omega))
                                              have hz41 := H41.size
                                              refine ⟨hS41, ?_⟩
                                              refine RH.done (by kernel_rfl) ?_
                                              exact ⟨b15, b16, Sub.cons rfl (Sub.cons rfl (Sub.cons rfl (Sub.cons rfl (Sub.cons rfl (Sub.cons rfl (Sub.cons rfl (Sub.nil))))))), hB57, hK251, hK252, hK253, hK254, hK255, hK256, lo_b15, lo_b16, ne53, ne54, ne55, ne56, ne57, ne58, ne59, ne60, ne61, hR50, (by omega)⟩
                                            ·
                                              refine RO.newP rfl (cs := #[.int .i64 0]) (T := 3) rfl rfl rfl (Yv.alloc (z := .int .i64 0) rfl zero3) ?_
                                              intro b17 w58 N17
                                              have ne62 := New.ne N17 hK230
                                              have ne63 := New.ne N17 hK231
                                              have ne64 := New.ne N17 hK232
                                              have ne65 := New.ne N17 hK233
                                              have ne66 := New.ne N17 hK234
                                              have lo_b17 : w.heap.size ≤ b17 := by have := hB53.size; have := N17.num; omega
                                              have hn_b17 := N17.num
                                              have hs_b17 := N17.size
                                              have hS42 := Kp.step hS37 N17.below
                                              have hB58 := Bl.step hB53 N17.below
                                              have hK257 := Blk.below hK230 N17.below
                                              have hK258 := Blk.below hK231 N17.below
                                              have hK259 := Blk.below hK232 N17.below
                                              have hK260 := Blk.below hK233 N17.below
                                              have hK261 := Blk.below hK234 N17.below
                                              have hR51 := hR46.mono (kept_below N17.below (by omega))
                                              refine ⟨hS42, ?_⟩
                                              refine RH.one 6 (by kernel_rfl) ?_
                                              refine RO.fn rfl rfl rfl rfl (Yc.func #[.agg #[.slice p c.length cc]] rfl ok17 (args1 rfl)) (c17 ((hv.mono (kept_from hB0 hB58 (Nat.le_refl _))).wide (Nat.zero_le _) (by omega)) (validB_chanT hv_c)) ?_
                                              rintro _ w59 ⟨rfl, H42⟩
                                              have hS43 := Kp.step hS42 H42
                                              have hB59 := Bl.step hB58 H42
                                              have hK262 := Blk.below hK257 H42
                                              have hK263 := Blk.below hK258 H42
                                              have hK264 := Blk.below hK259 H42
                                              have hK265 := Blk.below hK260 H42
                                              have hK266 := Blk.below hK261 H42
                                              have hK267 := Blk.below N17.blk H42
                                              have hR52 := hR51.mono (kept_below H42 (by omega))
                                              have hz42 := H42.size
                                              refine ⟨hS43, ?_⟩
                                              refine RH.take 7 rfl (by kernel_rfl) rfl rfl rfl hS43 (fun W72 hW72 => Yl.mul (m := j) (n := totG c) rfl rfl rfl (by omega)) ?_
                                              refine RH.one 10 (by kernel_rfl) ?_
                                              refine RO.sto rfl (v := .int .i64 (i * (totG d))) (j := 0) rfl rfl hK266 (Yu.store rfl rfl rfl rfl rfl sz3 hK266 (by simp)) ?_
                                              intro w60 H43
                                              have hS44 := Kp.sto hS43 H43 (.inr (by omega))
                                              have hB60 := Bl.sto hB59 H43 lo_b15
                                              have hK268 := Blk.sto hK262 H43 ne53
                                              have hK269 := Blk.sto hK263 H43 ne54
                                              have hK270 := Blk.sto hK264 H43 ne55
                                              have hK271 := Blk.sto hK265 H43 ne56
                                              have hK272 := H43.blk
                                              have hK273 := Blk.sto hK267 H43 ne66.symm
                                              have hR53 := hR52.mono (kept_sto H43 (by omega) (by omega))
                                              have hz43 := H43.size
                                              refine ⟨hS44, ?_⟩
                                              refine RH.one 11 (by kernel_rfl) ?_
                                              refine RO.sto rfl (v := .int .i64 (j * (totG c))) (j := 0) rfl rfl hK273 (Yu.store rfl rfl rfl rfl rfl sz3 hK273 (by simp)) ?_
                                              intro w61 H44
                                              have hS45 := Kp.sto hS44 H44 (.inr (by omega))
                                              have hB61 := Bl.sto hB60 H44 lo_b17
                                              have hK274 := Blk.sto hK268 H44 ne62
                                              have hK275 := Blk.sto hK269 H44 ne63
                                              have hK276 := Blk.sto hK270 H44 ne64
                                              have hK277 := Blk.sto hK271 H44 ne65
                                              have hK278 := Blk.sto hK272 H44 ne66
                                              have hK279 := H44.blk
                                              have hR54 := hR53.mono (kept_sto H44 (by omega) (by omega))
                                              have hz44 := H44.size
                                              refine ⟨hS45, ?_⟩
                                              refine RH.done (by kernel_rfl) ?_
                                              exact ⟨b15, b17, Sub.cons rfl (Sub.cons rfl (Sub.cons rfl (Sub.cons rfl (Sub.cons rfl (Sub.cons rfl (Sub.cons rfl (Sub.nil))))))), hB61, hK274, hK275, hK276, hK277, hK278, hK279, lo_b15, lo_b17, ne53, ne54, ne55, ne56, ne62, ne63, ne64, ne65, ne66, hR54, (by omega)⟩
                                          ·
                                            refine RO.newP rfl (cs := #[.int .i64 0]) (T := 3) rfl rfl rfl (Yv.alloc (z := .int .i64 0) rfl zero3) ?_
                                            intro b18 w62 N18
                                            have ne67 := New.ne N18 hK226
                                            have ne68 := New.ne N18 hK227
                                            have ne69 := New.ne N18 hK228
                                            have ne70 := New.ne N18 hK229
                                            have ne71 := New.ne N18 N15.blk
                                            have lo_b18 : w.heap.size ≤ b18 := by have := hB52.size; have := N18.num; omega
                                            have hn_b18 := N18.num
                                            have hs_b18 := N18.size
                                            have hS46 := Kp.step hS36 N18.below
                                            have hB62 := Bl.step hB52 N18.below
                                            have hK280 := Blk.below hK226 N18.below
                                            have hK281 := Blk.below hK227 N18.below
                                            have hK282 := Blk.below hK228 N18.below
                                            have hK283 := Blk.below hK229 N18.below
                                            have hK284 := Blk.below N15.blk N18.below
                                            have hR55 := hR45.mono (kept_below N18.below (by omega))
                                            refine ⟨hS46, ?_⟩
                                            refine RH.one 2 (by kernel_rfl) ?_
                                            refine RO.fn rfl rfl rfl rfl (Yc.func #[.agg #[.slice p2 d.length cd]] rfl ok17 (args1 rfl)) (c17 ((hu.mono (kept_from hB0 hB62 (Nat.le_refl _))).wide (Nat.zero_le _) (by omega)) (validB_chanT hv_d)) ?_
                                            rintro _ w63 ⟨rfl, H45⟩
                                            have hS47 := Kp.step hS46 H45
                                            have hB63 := Bl.step hB62 H45
                                            have hK285 := Blk.below hK280 H45
                                            have hK286 := Blk.below hK281 H45
                                            have hK287 := Blk.below hK282 H45
                                            have hK288 := Blk.below hK283 H45
                                            have hK289 := Blk.below hK284 H45
                                            have hK290 := Blk.below N18.blk H45
                                            have hR56 := hR55.mono (kept_below H45 (by omega))
                                            have hz45 := H45.size
                                            refine ⟨hS47, ?_⟩
                                            refine RH.take 3 rfl (by kernel_rfl) rfl rfl rfl hS47 (fun W74 hW74 => Yl.mul (m := i) (n := totG d) rfl rfl rfl (by omega)) ?_
                                            refine RH.one 6 (by kernel_rfl) ?_
                                            refine RO.fn rfl rfl rfl rfl (Yc.func #[.agg #[.slice p c.length cc]] rfl ok17 (args1 rfl)) (c17 ((hv.mono (kept_from hB0 hB63 (Nat.le_refl _))).wide (Nat.zero_le _) (by omega)) (validB_chanT hv_c)) ?_
                                            rintro _ w64 ⟨rfl, H46⟩
                                            have hS48 := Kp.step hS47 H46
                                            have hB64 := Bl.step hB63 H46
                                            have hK291 := Blk.below hK285 H46
                                            have hK292 := Blk.below hK286 H46
                                            have hK293 := Blk.below hK287 H46
                                            have hK294 := Blk.below hK288 H46
                                            have hK295 := Blk.below hK289 H46
                                            have hK296 := Blk.below hK290 H46
                                            have hR57 := hR56.mono (kept_below H46 (by omega))
                                            have hz46 := H46.size
                                            refine ⟨hS48, ?_⟩
                                            refine RH.take 7 rfl (by kernel_rfl) rfl rfl rfl hS48 (fun W76 hW76 => Yl.mul (m := j) (n := totG c) rfl rfl rfl (by omega)) ?_
                                            refine RH.one 10 (by kernel_rfl) ?_
                                            refine RO.sto rfl (v := .int .i64 (i * (totG d))) (j := 0) rfl rfl hK295 (Yu.store rfl rfl rfl rfl rfl sz3 hK295 (by simp)) ?_
                                            intro w65 H47
                                            have hS49 := Kp.sto hS48 H47 (.inr (by omega))
                                            have hB65 := Bl.sto hB64 H47 lo_b15
                                            have hK297 := Blk.sto hK291 H47 ne53
                                            have hK298 := Blk.sto hK292 H47 ne54
                                            have hK299 := Blk.sto hK293 H47 ne55
                                            have hK300 := Blk.sto hK294 H47 ne56
                                            have hK301 := H47.blk
                                            have hK302 := Blk.sto hK296 H47 ne71.symm
                                            have hR58 := hR57.mono (kept_sto H47 (by omega) (by omega))
                                            have hz47 := H47.size
                                            refine ⟨hS49, ?_⟩
                                            refine RH.one 11 (by kernel_rfl) ?_
                                            refine RO.sto rfl (v := .int .i64 (j * (totG c))) (j := 0) rfl rfl hK302 (Yu.store rfl rfl rfl rfl rfl sz3 hK302 (by simp)) ?_
                                            intro w66 H48
                                            have hS50 := Kp.sto hS49 H48 (.inr (by omega))
                                            have hB66 := Bl.sto hB65 H48 lo_b18
                                            have hK303 := Blk.sto hK297 H48 ne67
                                            have hK304 := Blk.sto hK298 H48 ne68
                                            have hK305 := Blk.sto hK299 H48 ne69
                                            have hK306 := Blk.sto hK300 H48 ne70
                                            have hK307 := Blk.sto hK301 H48 ne71
                                            have hK308 := H48.blk
                                            have hR59 := hR58.mono (kept_sto H48 (by omega) (by omega))
                                            have hz48 := H48.size
                                            refine ⟨hS50, ?_⟩
                                            refine RH.done (by kernel_rfl) ?_
                                            exact ⟨b15, b18, Sub.cons rfl (Sub.cons rfl (Sub.cons rfl (Sub.cons rfl (Sub.cons rfl (Sub.cons rfl (Sub.cons rfl (Sub.nil))))))), hB66, hK303, hK304, hK305, hK306, hK307, hK308, lo_b15, lo_b18, ne53, ne54, ne55, ne56, ne67, ne68, ne69, ne70, ne71, hR59, (by omega)⟩
                                        ·
                                          refine RO.newP rfl (cs := #[.int .i64 0]) (T := 3) rfl rfl rfl (Yv.alloc (z := .int .i64 0) rfl zero3) ?_
                                          intro b19 w67 N19
                                          have ne72 := New.ne N19 hK74
                                          have ne73 := New.ne N19 hK75
                                          have ne74 := New.ne N19 hK76
                                          have ne75 := New.ne N19 hK77
                                          have lo_b19 : w.heap.size ≤ b19 := by have := hB23.size; have := N19.num; omega
                                          have hn_b19 := N19.num
                                          have hs_b19 := N19.size
                                          have hS51 := Kp.step hS7 N19.below
                                          have hB67 := Bl.step hB23 N19.below
                                          have hK309 := Blk.below hK74 N19.below
                                          have hK310 := Blk.below hK75 N19.below
                                          have hK311 := Blk.below hK76 N19.below
                                          have hK312 := Blk.below hK77 N19.below
                                          have hR60 := hR16.mono (kept_below N19.below (by omega))
                                          refine ⟨hS51, ?_⟩
                                          refine RH.two 2 8 (by kernel_rfl) ?_ ?_
                                          ·
                                            refine RO.fn rfl rfl rfl rfl (Yc.func #[.agg #[.slice p2 d.length cd]] rfl ok17 (args1 rfl)) (c17 ((hu.mono (kept_from hB0 hB67 (Nat.le_refl _))).wide (Nat.zero_le _) (by omega)) (validB_chanT hv_d)) ?_
                                            rintro _ w68 ⟨rfl, H49⟩
                                            have hS52 := Kp.step hS51 H49
                                            have hB68 := Bl.step hB67 H49
                                            have hK313 := Blk.below hK309 H49
                                            have hK314 := Blk.below hK310 H49
                                            have hK315 := Blk.below hK311 H49
                                            have hK316 := Blk.below hK312 H49
                                            have hK317 := Blk.below N19.blk H49
                                            have hR61 := hR60.mono (kept_below H49 (by omega))
                                            have hz49 := H49.size
                                            refine ⟨hS52, ?_⟩
                                            refine RH.take 3 rfl (by kernel_rfl) rfl rfl rfl hS52 (fun W79 hW79 => Yl.mul (m := i) (n := totG d) rfl rfl rfl (by omega)) ?_
                                            refine RH.two 6 8 (by kernel_rfl) ?_ ?_
                                            ·
                                              refine RO.fn rfl rfl rfl rfl (Yc.func #[.agg #[.slice p c.length cc]] rfl ok17 (args1 rfl)) (c17 ((hv.mono (kept_from hB0 hB68 (Nat.le_refl _))).wide (Nat.zero_le _) (by omega)) (validB_chanT hv_c)) ?_
                                              rintro _ w69 ⟨rfl, H50⟩
                                              have hS53 := Kp.step hS52 H50
                                              have hB69 := Bl.step hB68 H50
                                              have hK318 := Blk.below hK313 H50
                                              have hK319 := Blk.below hK314 H50
                                              have hK320 := Blk.below hK315 H50
                                              have hK321 := Blk.below hK316 H50
                                              have hK322 := Blk.below hK317 H50
                                              have hR62 := hR61.mono (kept_below H50 (by omega))
                                              have hz50 := H50.size
                                              refine ⟨hS53, ?_⟩
                                              refine RH.take 7 rfl (by kernel_rfl) rfl rfl rfl hS53 (fun W82 hW82 => Yl.mul (m := j) (n := totG c) rfl rfl rfl (by omega)) ?_
                                              refine RH.one 8 (by kernel_rfl) ?_
                                              refine RO.newP rfl (cs := #[.int .i64 0]) (T := 3) rfl rfl rfl (Yv.alloc (z := .int .i64 0) rfl zero3) ?_
                                              intro b20 w70 N20
                                              have ne76 := New.ne N20 hK318
                                              have ne77 := New.ne N20 hK319
                                              have ne78 := New.ne N20 hK320
                                              have ne79 := New.ne N20 hK321
                                              have ne80 := New.ne N20 hK322
                                              have lo_b20 : w.heap.size ≤ b20 := by have := hB69.size; have := N20.num; omega
                                              have hn_b20 := N20.num
                                              have hs_b20 := N20.size
                                              have hS54 := Kp.step hS53 N20.below
                                              have hB70 := Bl.step hB69 N20.below
                                              have hK323 := Blk.below hK318 N20.below
                                              have hK324 := Blk.below hK319 N20.below
                                              have hK325 := Blk.below hK320 N20.below
                                              have hK326 := Blk.below hK321 N20.below
                                              have hK327 := Blk.below hK322 N20.below
                                              have hR63 := hR62.mono (kept_below N20.below (by omega))
                                              refine ⟨hS54, ?_⟩
                                              refine RH.one 10 (by kernel_rfl) ?_
                                              refine RO.sto rfl (v := .int .i64 (i * (totG d))) (j := 0) rfl rfl N20.blk (Yu.store rfl rfl rfl rfl rfl sz3 N20.blk (by simp)) ?_
                                              intro w71 H51
                                              have hS55 := Kp.sto hS54 H51 (.inr (by omega))
                                              have hB71 := Bl.sto hB70 H51 lo_b20
                                              have hK328 := Blk.sto hK323 H51 ne76
                                              have hK329 := Blk.sto hK324 H51 ne77
                                              have hK330 := Blk.sto hK325 H51 ne78
                                              have hK331 := Blk.sto hK326 H51 ne79
                                              have hK332 := Blk.sto hK327 H51 ne80
                                              have hK333 := H51.blk
                                              have hR64 := hR63.mono (kept_sto H51 (by omega) (by omega))
                                              have hz51 := H51.size
                                              refine ⟨hS55, ?_⟩
                                              refine RH.one 11 (by kernel_rfl) ?_
                                              refine RO.sto rfl (v := .int .i64 (j * (totG c))) (j := 0) rfl rfl hK332 (Yu.store rfl rfl rfl rfl rfl sz3 hK332 (by simp)) ?_
                                              intro w72 H52
                                              have hS56 := Kp.sto hS55 H52 (.inr (by omega))
                                              have hB72 := Bl.sto hB71 H52 lo_b19
                                              have hK334 := Blk.sto hK328 H52 ne72
                                              have hK335 := Blk.sto hK329 H52 ne73
                                              have hK336 := Blk.sto hK330 H52 ne74
                                              have hK337 := Blk.sto hK331 H52 ne75
                                              have hK338 := H52.blk
                                              have hK339 := Blk.sto hK333 H52 ne80.symm
                                              have hR65 := hR64.mono (kept_sto H52 (by omega) (by omega))
                                              have hz52 := H52.size
                                              refine ⟨hS56, ?_⟩
                                              refine RH.done (by kernel_rfl) ?_
                                              exact ⟨b20, b19, Sub.cons rfl (Sub.cons rfl (Sub.cons rfl (Sub.cons rfl (Sub.cons rfl (Sub.cons rfl (Sub.cons rfl (Sub.nil))))))), hB72, hK334, hK335, hK336, hK337, hK339, hK338, lo_b20, lo_b19, ne76, ne77, ne78, ne79, ne72, ne73, ne74, ne75, ne80.symm, hR65, (by omega)⟩
                                            ·
                                              refine RO.newP rfl (cs := #[.int .i64 0]) (T := 3) rfl rfl rfl (Yv.alloc (z := .int .i64 0) rfl zero3) ?_
                                              intro b21 w73 N21
                                              have ne81 := New.ne N21 hK313
                                              have ne82 := New.ne N21 hK314
                                              have ne83 := New.ne N21 hK315
                                              have ne84 := New.ne N21 hK316
                                              have ne85 := New.ne N21 hK317
                                              have lo_b21 : w.heap.size ≤ b21 := by have := hB68.size; have := N21.num; omega
                                              have hn_b21 := N21.num
                                              have hs_b21 := N21.size
                                              have hS57 := Kp.step hS52 N21.below
                                              have hB73 := Bl.step hB68 N21.below
                                              have hK340 := Blk.below hK313 N21.below
                                              have hK341 := Blk.below hK314 N21.below
                                              have hK342 := Blk.below hK315 N21.below
                                              have hK343 := Blk.below hK316 N21.below
                                              have hK344 := Blk.below hK317 N21.below
                                              have hR66 := hR61.mono (kept_below N21.below (by omega))
                                              refine ⟨hS57, ?_⟩
                                              refine RH.one 6 (by kernel_rfl) ?_
                                              refine RO.fn rfl rfl rfl rfl (Yc.func #[.agg #[.slice p c.length cc]] rfl ok17 (args1 rfl)) (c17 ((hv.mono (kept_from hB0 hB73 (Nat.le_refl _))).wide (Nat.zero_le _) (by omega)) (validB_chanT hv_c)) ?_
                                              rintro _ w74 ⟨rfl, H53⟩
                                              have hS58 := Kp.step hS57 H53
                                              have hB74 := Bl.step hB73 H53
                                              have hK345 := Blk.below hK340 H53
                                              have hK346 := Blk.below hK341 H53
                                              have hK347 := Blk.below hK342 H53
                                              have hK348 := Blk.below hK343 H53
                                              have hK349 := Blk.below hK344 H53
                                              have hK350 := Blk.below N21.blk H53
                                              have hR67 := hR66.mono (kept_below H53 (by omega))
                                              have hz53 := H53.size
                                              refine ⟨hS58, ?_⟩
                                              refine RH.take 7 rfl (by kernel_rfl) rfl rfl rfl hS58 (fun W85 hW85 => Yl.mul (m := j) (n := totG c) rfl rfl rfl (by omega)) ?_
                                              refine RH.one 10 (by kernel_rfl) ?_
                                              refine RO.sto rfl (v := .int .i64 (i * (totG d))) (j := 0) rfl rfl hK350 (Yu.store rfl rfl rfl rfl rfl sz3 hK350 (by simp)) ?_
                                              intro w75 H54
                                              have hS59 := Kp.sto hS58 H54 (.inr (by omega))
                                              have hB75 := Bl.sto hB74 H54 lo_b21
                                              have hK351 := Blk.sto hK345 H54 ne81
                                              have hK352 := Blk.sto hK346 H54 ne82
                                              have hK353 := Blk.sto hK347 H54 ne83
                                              have hK354 := Blk.sto hK348 H54 ne84
                                              have hK355 := Blk.sto hK349 H54 ne85
                                              have hK356 := H54.blk
                                              have hR68 := hR67.mono (kept_sto H54 (by omega) (by omega))
                                              have hz54 := H54.size
                                              refine ⟨hS59, ?_⟩
                                              refine RH.one 11 (by kernel_rfl) ?_
                                              refine RO.sto rfl (v := .int .i64 (j * (totG c))) (j := 0) rfl rfl hK355 (Yu.store rfl rfl rfl rfl rfl sz3 hK355 (by simp)) ?_
                                              intro w76 H55
                                              have hS60 := Kp.sto hS59 H55 (.inr (by omega))
                                              have hB76 := Bl.sto hB75 H55 lo_b19
                                              have hK357 := Blk.sto hK351 H55 ne72
                                              have hK358 := Blk.sto hK352 H55 ne73
                                              have hK359 := Blk.sto hK353 H55 ne74
                                              have hK360 := Blk.sto hK354 H55 ne75
                                              have hK361 := H55.blk
                                              have hK362 := Blk.sto hK356 H55 ne85.symm
                                              have hR69 := hR68.mono (kept_sto H55 (by omega) (by omega))
                                              have hz55 := H55.size
                                              refine ⟨hS60, ?_⟩
                                              refine RH.done (by kernel_rfl) ?_
                                              exact ⟨b21, b19, Sub.cons rfl (Sub.cons rfl (Sub.cons rfl (Sub.cons rfl (Sub.cons rfl (Sub.cons rfl (Sub.cons rfl (Sub.nil))))))), hB76, hK357, hK358, hK359, hK360, hK362, hK361, lo_b21, lo_b19, ne81, ne82, ne83, ne84, ne72, ne73, ne74, ne75, ne85.symm, hR69, (by omega)⟩
                                          ·
                                            refine RO.newP rfl (cs := #[.int .i64 0]) (T := 3) rfl rfl rfl (Yv.alloc (z := .int .i64 0) rfl zero3) ?_
                                            intro b22 w77 N22
                                            have ne86 := New.ne N22 hK309
                                            have ne87 := New.ne N22 hK310
                                            have ne88 := New.ne N22 hK311
                                            have ne89 := New.ne N22 hK312
                                            have ne90 := New.ne N22 N19.blk
                                            have lo_b22 : w.heap.size ≤ b22 := by have := hB67.size; have := N22.num; omega
                                            have hn_b22 := N22.num
                                            have hs_b22 := N22.size
                                            have hS61 := Kp.step hS51 N22.below
                                            have hB77 := Bl.step hB67 N22.below
                                            have hK363 := Blk.below hK309 N22.below
                                            have hK364 := Blk.below hK310 N22.below
                                            have hK365 := Blk.below hK311 N22.below
                                            have hK366 := Blk.below hK312 N22.below
                                            have hK367 := Blk.below N19.blk N22.below
                                            have hR70 := hR60.mono (kept_below N22.below (by omega))
                                            refine ⟨hS61, ?_⟩
                                            refine RH.one 2 (by kernel_rfl) ?_
                                            refine RO.fn rfl rfl rfl rfl (Yc.func #[.agg #[.slice p2 d.length cd]] rfl ok17 (args1 rfl)) (c17 ((hu.mono (kept_from hB0 hB77 (Nat.le_refl _))).wide (Nat.zero_le _) (by omega)) (validB_chanT hv_d)) ?_
                                            rintro _ w78 ⟨rfl, H56⟩
                                            have hS62 := Kp.step hS61 H56
                                            have hB78 := Bl.step hB77 H56
                                            have hK368 := Blk.below hK363 H56
                                            have hK369 := Blk.below hK364 H56
                                            have hK370 := Blk.below hK365 H56
                                            have hK371 := Blk.below hK366 H56
                                            have hK372 := Blk.below hK367 H56
                                            have hK373 := Blk.below N22.blk H56
                                            have hR71 := hR70.mono (kept_below H56 (by omega))
                                            have hz56 := H56.size
                                            refine ⟨hS62, ?_⟩
                                            refine RH.take 3 rfl (by kernel_rfl) rfl rfl rfl hS62 (fun W87 hW87 => Yl.mul (m := i) (n := totG d) rfl rfl rfl (by omega)) ?_
                                            refine RH.one 6 (by kernel_rfl) ?_
                                            refine RO.fn rfl rfl rfl rfl (Yc.func #[.agg #[.slice p c.length cc]] rfl ok17 (args1 rfl)) (c17 ((hv.mono (kept_from hB0 hB78 (Nat.le_refl _))).wide (Nat.zero_le _) (by omega)) (validB_chanT hv_c)) ?_
                                            rintro _ w79 ⟨rfl, H57⟩
                                            have hS63 := Kp.step hS62 H57
                                            have hB79 := Bl.step hB78 H57
                                            have hK374 := Blk.below hK368 H57
                                            have hK375 := Blk.below hK369 H57
                                            have hK376 := Blk.below hK370 H57
                                            have hK377 := Blk.below hK371 H57
                                            have hK378 := Blk.below hK372 H57
                                            have hK379 := Blk.below hK373 H57
                                            have hR72 := hR71.mono (kept_below H57 (by omega))
                                            have hz57 := H57.size
                                            refine ⟨hS63, ?_⟩
                                            refine RH.take 7 rfl (by kernel_rfl) rfl rfl rfl hS63 (fun W89 hW89 => Yl.mul (m := j) (n := totG c) rfl rfl rfl (by omega)) ?_
                                            refine RH.one 10 (by kernel_rfl) ?_
                                            refine RO.sto rfl (v := .int .i64 (i * (totG d))) (j := 0) rfl rfl hK379 (Yu.store rfl rfl rfl rfl rfl sz3 hK379 (by simp)) ?_
                                            intro w80 H58
                                            have hS64 := Kp.sto hS63 H58 (.inr (by omega))
                                            have hB80 := Bl.sto hB79 H58 lo_b22
                                            have hK380 := Blk.sto hK374 H58 ne86
                                            have hK381 := Blk.sto hK375 H58 ne87
                                            have hK382 := Blk.sto hK376 H58 ne88
                                            have hK383 := Blk.sto hK377 H58 ne89
                                            have hK384 := Blk.sto hK378 H58 ne90
                                            have hK385 := H58.blk
                                            have hR73 := hR72.mono (kept_sto H58 (by omega) (by omega))
                                            have hz58 := H58.size
                                            refine ⟨hS64, ?_⟩
                                            refine RH.one 11 (by kernel_rfl) ?_
                                            refine RO.sto rfl (v := .int .i64 (j * (totG c))) (j := 0) rfl rfl hK384 (Yu.store rfl rfl rfl rfl rfl sz3 hK384 (by simp)) ?_
                                            intro w81 H59
                                            have hS65 := Kp.sto hS64 H59 (.inr (by omega))
                                            have hB81 := Bl.sto hB80 H59 lo_b19
                                            have hK386 := Blk.sto hK380 H59 ne72
                                            have hK387 := Blk.sto hK381 H59 ne73
                                            have hK388 := Blk.sto hK382 H59 ne74
                                            have hK389 := Blk.sto hK383 H59 ne75
                                            have hK390 := H59.blk
                                            have hK391 := Blk.sto hK385 H59 ne90.symm
                                            have hR74 := hR73.mono (kept_sto H59 (by omega) (by omega))
                                            have hz59 := H59.size
                                            refine ⟨hS65, ?_⟩
                                            refine RH.done (by kernel_rfl) ?_
                                            exact ⟨b22, b19, Sub.cons rfl (Sub.cons rfl (Sub.cons rfl (Sub.cons rfl (Sub.cons rfl (Sub.cons rfl (Sub.cons rfl (Sub.nil))))))), hB81, hK386, hK387, hK388, hK389, hK391, hK390, lo_b22, lo_b19, ne86, ne87, ne88, ne89, ne72, ne73, ne74, ne75, ne90.symm, hR74, (by omega)⟩
                                      ·
                                        rintro E1 w82 ⟨nb12_z1, nb13_z2, hsub1, hB82, hK392, hK393, hK394, hK395, hK396, hK397, lo1, lo2, ne91, ne92, ne93, ne94, ne95, ne96, ne97, ne98, ne99, hR75, hz60⟩
                                        change CW _ _ _ _ _ _
                                        refine CW.weak ?_ hsub1
                                        refine CW.seq ?_
                                        refine CW.cut (fun E W => ∃ nb14_z3 : Nat, ∃ pz1 : Option Addr, ∃ cz1 : Nat, (Sub [(3, .pointer (some ⟨b1, 0, none⟩)), (4, .pointer (some ⟨b2, 0, none⟩)), (6, .bool false), (9, .pointer (some ⟨b4, 0, none⟩)), (10, .int .i64 ((hidR c d i j).2)), (12, .pointer (some ⟨nb12_z1, 0, none⟩)), (13, .pointer (some ⟨nb13_z2, 0, none⟩)), (14, .pointer (some ⟨nb14_z3, 0, none⟩))] E) ∧ (Below w.heap.size w W) ∧ (Blk W b1 #[.slice p c.length cc] 24) ∧ (Blk W b2 #[.slice p2 d.length cd] 24) ∧ (Blk W b3 #[.int .i64 i, .int .i64 j] 39) ∧ (Blk W b4 #[.slice ps1 (((hidR c d i j).1).length) cs1] 24) ∧ (Blk W nb12_z1 #[.int .i64 (i * (totG d))] 3) ∧ (Blk W nb13_z2 #[.int .i64 (j * (totG c))] 3) ∧ (Blk W nb14_z3 #[.slice pz1 ((tab (c.length) ((c[0]!).length) (fun x y => (i * (totG d)) * ((c[x]!)[y]!) + (j * (totG c)) * ((d[x]!)[y]!))).length) cz1] 24) ∧ (w.heap.size ≤ nb14_z3) ∧ (b1 ≠ nb14_z3) ∧ (b2 ≠ nb14_z3) ∧ (b3 ≠ nb14_z3) ∧ (b4 ≠ nb14_z3) ∧ (nb12_z1 ≠ nb14_z3) ∧ (nb13_z2 ≠ nb14_z3) ∧ (RRows w7.heap.size w8.heap.size W (.slice ps1 (((hidR c d i j).1).length) cs1) ((hidR c d i j).1)) ∧ (RRows w.heap.size W.heap.size W (.slice pz1 ((tab (c.length) ((c[0]!).length) (fun x y => (i * (totG d)) * ((c[x]!)[y]!) + (j * (totG c)) * ((d[x]!)[y]!))).length) cz1) (tab (c.length) ((c[0]!).length) (fun x y => (i * (totG d)) * ((c[x]!)[y]!) + (j * (totG c)) * ((d[x]!)[y]!)))) ∧ (w82.heap.size ≤ W.heap.size)) ?_ ?_
                                        ·
                                          refine CW.draw 12 rfl (Kp []) (by kernel_rfl) ?_
                                          intro w83 H60
                                          have hB83 := Bl.step hB82 H60
                                          have hK398 := Blk.below hK392 H60
                                          have hK399 := Blk.below hK393 H60
                                          have hK400 := Blk.below hK394 H60
                                          have hK401 := Blk.below hK395 H60
                                          have hK402 := Blk.below hK396 H60
                                          have hK403 := Blk.below hK397 H60
                                          have hR76 := hR75.mono (kept_below H60 (by omega))
                                          have hz61 := H60.size
                                          have hS66 := Kp.refl [] w83
                                          refine RH.take 0 rfl (by kernel_rfl) rfl rfl rfl hS66 (fun W90 hW90 => Yl.fieldAddr rfl rfl Try.underlying24 rfl sz22) ?_
                                          refine RH.take 1 rfl (by kernel_rfl) rfl rfl rfl hS66 (fun W91 hW91 => Yl.load rfl rfl one22 (Blk.cell (Kp.blk hW91 hK398 (by simp)) rfl)) ?_
                                          refine RH.take 2 rfl (by kernel_rfl) rfl rfl rfl hS66 (fun W92 hW92 => Yl.len rfl rfl Try.underlying22) ?_
                                          refine RH.take 3 rfl (by kernel_rfl) rfl rfl rfl hS66 (fun W93 hW93 => Yl.fieldAddr rfl rfl Try.underlying24 rfl sz22) ?_
                                          refine RH.take 4 rfl (by kernel_rfl) rfl rfl rfl hS66 (fun W94 hW94 => Yl.load rfl rfl one22 (Blk.cell (Kp.blk hW94 hK398 (by simp)) rfl)) ?_
                                          obtain ⟨bx3, ox3, px3, cx3, hp3, hl4, hh3, hc3, hx3, hn3⟩ := (hv.mono (kept_from hB0 hB83 (Nat.le_refl _))).at 0 (by omega)
                                          refine RH.take 5 rfl (by kernel_rfl) rfl rfl rfl hS66 (fun W95 hW95 => Yl.indexAddr1 (k := 0) rfl rfl rfl Try.underlying22 sz31 hp3 rfl (by omega)) ?_
                                          refine RH.take 6 rfl (by kernel_rfl) rfl rfl rfl hS66 (fun W96 hW96 => Yl.load rfl rfl one31 (Kp.cell hW96 hc3 (by simp))) ?_
                                          refine RH.take 7 rfl (by kernel_rfl) rfl rfl rfl hS66 (fun W97 hW97 => Yl.len rfl rfl Try.underlying31) ?_
                                          refine RH.take 8 rfl (by kernel_rfl) rfl rfl rfl hS66 (fun W98 hW98 => Yl.func #[.pointer (some ⟨nb12_z1, 0, none⟩), .pointer (some ⟨b1, 0, none⟩), .pointer (some ⟨nb13_z2, 0, none⟩), .pointer (some ⟨b2, 0, none⟩)] rfl rfl (args4 rfl rfl rfl rfl)) ?_
                                          refine RH.two 9 10 (by kernel_rfl) ?_ ?_
                                          ·
                                            refine RO.fn rfl rfl rfl rfl (Yc.func #[.int .i64 ((c.length : Nat) : Int), .int .i64 (((c[0]!).length : Nat) : Int), .func (.func 28) #[] #[.pointer (some ⟨nb12_z1, 0, none⟩), .pointer (some ⟨b1, 0, none⟩), .pointer (some ⟨nb13_z2, 0, none⟩), .pointer (some ⟨b2, 0, none⟩)]] rfl ok27 (args3 rfl rfl rfl)) (c27_28 (f := fun x y => (i * (totG d)) * ((c[x]!)[y]!) + (j * (totG c)) * ((d[x]!)[y]!)) (fun hx hy hb => c28 (Blk.below hK402 hb) (Blk.below hK398 hb) ((((hv.mono (kept_from hB0 hB83 (Nat.le_refl _))).wide (Nat.zero_le _) (by omega)).mono (kept_below hb (Nat.le_refl _))).wide (Nat.zero_le _) hb.size) (Blk.below hK403 hb) (Blk.below hK399 hb) ((((hu.mono (kept_from hB0 hB83 (Nat.le_refl _))).wide (Nat.zero_le _) (by omega)).mono (kept_below hb (Nat.le_refl _))).wide (Nat.zero_le _) hb.size) (validB_chanT hv_c) (validB_chanT hv_d) (by omega) (by omega) (by omega) (by omega) (by omega) (by omega)) (by omega) (by omega)) ?_
                                            rintro _ w84 ⟨s2, rfl, hR77, H61⟩
                                            obtain ⟨ps2, cs2, rfl, hl5⟩ := hR77.form
                                            have hS67 := Kp.step hS66 H61
                                            have hB84 := Bl.step hB83 H61
                                            have hK404 := Blk.below hK398 H61
                                            have hK405 := Blk.below hK399 H61
                                            have hK406 := Blk.below hK400 H61
                                            have hK407 := Blk.below hK401 H61
                                            have hK408 := Blk.below hK402 H61
                                            have hK409 := Blk.below hK403 H61
                                            have hR78 := hR76.mono (kept_below H61 (by omega))
                                            have hz62 := H61.size
                                            refine ⟨hS67, ?_⟩
                                            refine RH.one 10 (by kernel_rfl) ?_
                                            refine RO.newP rfl (cs := #[.slice none 0 0]) (T := 24) rfl rfl rfl (Yv.alloc (z := .agg #[.slice none 0 0]) rfl zero24) ?_
                                            intro b23 w85 N23
                                            have ne100 := New.ne N23 hK404
                                            have ne101 := New.ne N23 hK405
                                            have ne102 := New.ne N23 hK406
                                            have ne103 := New.ne N23 hK407
                                            have ne104 := New.ne N23 hK408
                                            have ne105 := New.ne N23 hK409
                                            have lo_b23 : w.heap.size ≤ b23 := by have := hB84.size; have := N23.num; omega
                                            have hn_b23 := N23.num
                                            have hs_b23 := N23.size
                                            have hS68 := Kp.step hS67 N23.below
                                            have hB85 := Bl.step hB84 N23.below
                                            have hK410 := Blk.below hK404 N23.below
                                            have hK411 := Blk.below hK405 N23.below
                                            have hK412 := Blk.below hK406 N23.below
                                            have hK413 := Blk.below hK407 N23.below
                                            have hK414 := Blk.below hK408 N23.below
                                            have hK415 := Blk.below hK409 N23.below
                                            have hR79 := hR78.mono (kept_below N23.below (by omega))
                                            have hR80 := hR77.mono (kept_below N23.below (by omega))
                                            refine ⟨hS68, ?_⟩
                                            refine RH.one 11 (by kernel_rfl) ?_
                                            refine RO.stoAll rfl (cs' := #[.slice ps2 ((tab (c.length) ((c[0]!).length) (fun x y => (i * (totG d)) * ((c[x]!)[y]!) + (j * (totG c)) * ((d[x]!)[y]!))).length) cs2]) rfl rfl N23.blk (Yu.storeAll rfl rfl rfl sz24 N23.blk rfl (by simp [Value.oneCell'])) ?_
                                            intro w86 H62
                                            have hS69 := Kp.sto hS68 H62 (.inr (by omega))
                                            have hB86 := Bl.sto hB85 H62 lo_b23
                                            have hK416 := Blk.sto hK410 H62 ne100
                                            have hK417 := Blk.sto hK411 H62 ne101
                                            have hK418 := Blk.sto hK412 H62 ne102
                                            have hK419 := Blk.sto hK413 H62 ne103
                                            have hK420 := Blk.sto hK414 H62 ne104
                                            have hK421 := Blk.sto hK415 H62 ne105
                                            have hK422 := H62.blk
                                            have hR81 := hR79.mono (kept_sto H62 (by omega) (by omega))
                                            have hR82 := hR80.mono (kept_sto H62 (by omega) (by omega))
                                            have hz63 := H62.size
                                            refine ⟨hS69, ?_⟩
                                            refine RH.done (by kernel_rfl) ?_
                                            exact ⟨b23, ps2, cs2, Sub.cons rfl (Sub.cons rfl (Sub.cons rfl (Sub.cons rfl (Sub.cons rfl (Sub.cons rfl (Sub.cons rfl (Sub.cons rfl (Sub.nil)))))))), hB86, hK416, hK417, hK418, hK419, hK420, hK421, hK422, lo_b23, ne100, ne101, ne102, ne103, ne104, ne105, hR81, (hR82.wide (by omega) (by omega)), (by omega)⟩
                                          ·
                                            refine RO.newP rfl (cs := #[.slice none 0 0]) (T := 24) rfl rfl rfl (Yv.alloc (z := .agg #[.slice none 0 0]) rfl zero24) ?_
                                            intro b24 w87 N24
                                            have ne106 := New.ne N24 hK398
                                            have ne107 := New.ne N24 hK399
                                            have ne108 := New.ne N24 hK400
                                            have ne109 := New.ne N24 hK401
                                            have ne110 := New.ne N24 hK402
                                            have ne111 := New.ne N24 hK403
                                            have lo_b24 : w.heap.size ≤ b24 := by have := hB83.size; have := N24.num; omega
                                            have hn_b24 := N24.num
                                            have hs_b24 := N24.size
                                            have hS70 := Kp.step hS66 N24.below
                                            have hB87 := Bl.step hB83 N24.below
                                            have hK423 := Blk.below hK398 N24.below
                                            have hK424 := Blk.below hK399 N24.below
                                            have hK425 := Blk.below hK400 N24.below
                                            have hK426 := Blk.below hK401 N24.below
                                            have hK427 := Blk.below hK402 N24.below
                                            have hK428 := Blk.below hK403 N24.below
                                            have hR83 := hR76.mono (kept_below N24.below (by omega))
                                            refine ⟨hS70, ?_⟩
                                            refine RH.one 9 (by kernel_rfl) ?_
                                            refine RO.fn rfl rfl rfl rfl (Yc.func #[.int .i64 ((c.length : Nat) : Int), .int .i64 (((c[0]!).length : Nat) : Int), .func (.func 28) #[] #[.pointer (some ⟨nb12_z1, 0, none⟩), .pointer (some ⟨b1, 0, none⟩), .pointer (some ⟨nb13_z2, 0, none⟩), .pointer (some ⟨b2, 0, none⟩)]] rfl ok27 (args3 rfl rfl rfl)) (c27_28 (f := fun x y => (i * (totG d)) * ((c[x]!)[y]!) + (j * (totG c)) * ((d[x]!)[y]!)) (fun hx hy hb => c28 (Blk.below hK427 hb) (Blk.below hK423 hb) ((((hv.mono (kept_from hB0 hB87 (Nat.le_refl _))).wide (Nat.zero_le _) (by omega)).mono (kept_below hb (Nat.le_refl _))).wide (Nat.zero_le _) hb.size) (Blk.below hK428 hb) (Blk.below hK424 hb) ((((hu.mono (kept_from hB0 hB87 (Nat.le_refl _))).wide (Nat.zero_le _) (by omega)).mono (kept_below hb (Nat.le_refl _))).wide (Nat.zero_le _) hb.size) (validB_chanT hv_c) (validB_chanT hv_d) (by omega) (by omega) (by omega) (by omega) (by omega) (by omega)) (by omega) (by omega)) ?_
                                            rintro _ w88 ⟨s3, rfl, hR84, H63⟩
                                            obtain ⟨ps3, cs3, rfl, hl6⟩ := hR84.form
                                            have hS71 := Kp.step hS70 H63
                                            have hB88 := Bl.step hB87 H63
                                            have hK429 := Blk.below hK423 H63
                                            have hK430 := Blk.below hK424 H63
                                            have hK431 := Blk.below hK425 H63
                                            have hK432 := Blk.below hK426 H63
                                            have hK433 := Blk.below hK427 H63
                                            have hK434 := Blk.below hK428 H63
                                            have hK435 := Blk.below N24.blk H63
                                            have hR85 := hR83.mono (kept_below H63 (by omega))
                                            have hz64 := H63.size
                                            refine ⟨hS71, ?_⟩
                                            refine RH.one 11 (by kernel_rfl) ?_
                                            refine RO.stoAll rfl (cs' := #[.slice ps3 ((tab (c.length) ((c[0]!).length) (fun x y => (i * (totG d)) * ((c[x]!)[y]!) + (j * (totG c)) * ((d[x]!)[y]!))).length) cs3]) rfl rfl hK435 (Yu.storeAll rfl rfl rfl sz24 hK435 rfl (by simp [Value.oneCell'])) ?_
                                            intro w89 H64
                                            have hS72 := Kp.sto hS71 H64 (.inr (by omega))
                                            have hB89 := Bl.sto hB88 H64 lo_b24
                                            have hK436 := Blk.sto hK429 H64 ne106
                                            have hK437 := Blk.sto hK430 H64 ne107
                                            have hK438 := Blk.sto hK431 H64 ne108
                                            have hK439 := Blk.sto hK432 H64 ne109
                                            have hK440 := Blk.sto hK433 H64 ne110
                                            have hK441 := Blk.sto hK434 H64 ne111
                                            have hK442 := H64.blk
                                            have hR86 := hR85.mono (kept_sto H64 (by omega) (by omega))
                                            have hR87 := hR84.mono (kept_sto H64 (by omega) (by omega))
                                            have hz65 := H64.size
                                            refine ⟨hS72, ?_⟩
                                            refine RH.done (by kernel_rfl) ?_
                                            exact ⟨b24, ps3, cs3, Sub.cons rfl (Sub.cons rfl (Sub.cons rfl (Sub.cons rfl (Sub.cons rfl (Sub.cons rfl (Sub.cons rfl (Sub.cons rfl (Sub.nil)))))))), hB89, hK436, hK437, hK438, hK439, hK440, hK441, hK442, lo_b24, ne106, ne107, ne108, ne109, ne110, ne111, hR86, (hR87.wide (by omega) (by omega)), (by omega)⟩
                                        ·
                                          rintro E2 w90 ⟨nb14_z3, pz1, cz1, hsub2, hB90, hK443, hK444, hK445, hK446, hK447, hK448, hK449, lo3, ne112, ne113, ne114, ne115, ne116, ne117, hR88, hR89, hz66⟩
                                          change CW _ _ _ _ _ _
                                          refine CW.weak ?_ hsub2
                                          refine CW.seq ?_
                                          rcases Bool.eq_false_or_eq_true (decide (((hidR c d i j).2) = 0)) with hg26 | hg26
                                          ·
                                            have hq26 := of_decide_eq_true hg26
                                            first
                                            | (exfalso; omega)
                                            | (
                                              refine CW.draw 22 rfl (Kp []) (by kernel_rfl) ?_
                                              intro w91 H65
                                              have hB91 := Bl.step hB90 H65
                                              have hK450 := Blk.below hK443 H65
                                              have hK451 := Blk.below hK444 H65
                                              have hK452 := Blk.below hK445 H65
                                              have hK453 := Blk.below hK446 H65
                                              have hK454 := Blk.below hK447 H65
                                              have hK455 := Blk.below hK448 H65
                                              have hK456 := Blk.below hK449 H65
                                              have hR90 := hR88.mono (kept_below H65 (by omega))
                                              have hR91 := hR89.mono (kept_below H65 (by omega))
                                              have hz67 := H65.size
                                              have hS73 := Kp.refl [] w91
                                              refine RH.take 0 rfl (by kernel_rfl) rfl rfl rfl hS73 (fun W103 hW103 => Yl.move rfl rfl) ?_
                                              refine RH.take 1 rfl (by kernel_rfl) rfl rfl rfl hS73 (fun W104 hW104 => Yl.eqb (Yl.eql rfl rfl rfl) hg26) ?_
                                              refine RH.take 2 rfl (by kernel_rfl) rfl rfl rfl hS73 (fun W105 hW105 => Yl.move rfl rfl) ?_
                                              refine RH.take 3 rfl (by kernel_rfl) rfl rfl rfl hS73 (fun W106 hW106 => Yl.loadAgg (cs := [.slice ps1 (((hidR c d i j).1).length) cs1]) rfl rfl many24 (Blk.cells (Kp.blk hW106 hK453 (by simp)))) ?_
                                              refine RH.take 4 rfl (by kernel_rfl) rfl rfl rfl hS73 (fun W107 hW107 => Yl.loadAgg (cs := [.slice pz1 ((tab (c.length) ((c[0]!).length) (fun x y => (i * (totG d)) * ((c[x]!)[y]!) + (j * (totG c)) * ((d[x]!)[y]!))).length) cz1]) rfl rfl many24 (Blk.cells (Kp.blk hW107 hK456 (by simp)))) ?_
                                              refine RH.one 5 (by kernel_rfl) ?_
                                              refine RO.fn rfl rfl rfl rfl (Yc.func #[.agg #[.slice ps1 (((hidR c d i j).1).length) cs1], .agg #[.slice pz1 ((tab (c.length) ((c[0]!).length) (fun x y => (i * (totG d)) * ((c[x]!)[y]!) + (j * (totG c)) * ((d[x]!)[y]!))).length) cz1]] rfl ok19 (args2 rfl rfl)) (c19 (hR90.wide (Nat.zero_le _) (by omega)) (hR91.wide (Nat.zero_le _) (by omega))) ?_
                                              rintro _ w92 ⟨rfl, H66⟩
                                              have hS74 := Kp.step hS73 H66
                                              have hB92 := Bl.step hB91 H66
                                              have hK457 := Blk.below hK450 H66
                                              have hK458 := Blk.below hK451 H66
                                              have hK459 := Blk.below hK452 H66
                                              have hK460 := Blk.below hK453 H66
                                              have hK461 := Blk.below hK454 H66
                                              have hK462 := Blk.below hK455 H66
                                              have hK463 := Blk.below hK456 H66
                                              have hR92 := hR90.mono (kept_below H66 (by omega))
                                              have hR93 := hR91.mono (kept_below H66 (by omega))
                                              have hz68 := H66.size
                                              rw [hkq]
                                              refine ⟨hS74, ?_⟩
                                              refine RH.take 6 rfl (by kernel_rfl) rfl rfl rfl hS74 (fun W109 hW109 => Yl.pickT rfl rfl rfl) ?_
                                              refine RH.take 7 rfl (by kernel_rfl) rfl rfl rfl hS74 (fun W110 hW110 => Yl.move rfl rfl) ?_
                                              refine RH.take 8 rfl (by kernel_rfl) rfl rfl rfl hS74 (fun W111 hW111 => Yl.loadAgg (cs := [.slice ps1 (((hidR c d i j).1).length) cs1]) rfl rfl many24 (Blk.cells (Kp.blk hW111 hK453 (by simp)))) ?_
                                              refine RH.take 10 rfl (by kernel_rfl) rfl rfl rfl hS74 (fun W113 hW113 => Yl.load rfl rfl one3 (Blk.cell (Kp.blk hW113 hK454 (by simp)) rfl)) ?_
                                              refine RH.take 11 rfl (by kernel_rfl) rfl rfl rfl hS74 (fun W115 hW115 => Yl.loadAgg (cs := [.slice p c.length cc]) rfl rfl many24 (Blk.cells (Kp.blk hW115 hK450 (by simp)))) ?_
                                              refine RH.take 14 rfl (by kernel_rfl) rfl rfl rfl hS74 (fun W117 hW117 => Yl.load rfl rfl one3 (Blk.cell (Kp.blk hW117 hK455 (by simp)) rfl)) ?_
                                              refine RH.take 15 rfl (by kernel_rfl) rfl rfl rfl hS74 (fun W119 hW119 => Yl.loadAgg (cs := [.slice p2 d.length cd]) rfl rfl many24 (Blk.cells (Kp.blk hW119 hK451 (by simp)))) ?_
                                              refine RH.one 9 (by kernel_rfl) ?_
                                              refine RO.fn rfl rfl rfl rfl (Yc.func #[.agg #[.slice ps1 (((hidR c d i j).1).length) cs1]] rfl ok24 (args1 rfl)) (c24 (hR92.wide (Nat.zero_le _) (by omega)) (validB_chanT hv_p)) ?_
                                              rintro _ w93 ⟨rfl, H67⟩
                                              have hS75 := Kp.step hS74 H67
                                              have hB93 := Bl.step hB92 H67
                                              have hK464 := Blk.below hK457 H67
                                              have hK465 := Blk.below hK458 H67
                                              have hK466 := Blk.below hK459 H67
                                              have hK467 := Blk.below hK460 H67
                                              have hK468 := Blk.below hK461 H67
                                              have hK469 := Blk.below hK462 H67
                                              have hK470 := Blk.below hK463 H67
                                              have hR94 := hR92.mono (kept_below H67 (by omega))
                                              have hR95 := hR93.mono (kept_below H67 (by omega))
                                              have hz69 := H67.size
                                              refine ⟨hS75, ?_⟩
                                              refine RH.one 12 (by kernel_rfl) ?_
                                              refine RO.fn rfl rfl rfl rfl (Yc.func #[.agg #[.slice p c.length cc]] rfl ok24 (args1 rfl)) (c24 ((hv.mono (kept_from hB0 hB93 (Nat.le_refl _))).wide (Nat.zero_le _) (by omega)) (validB_chanT hv_c)) ?_
                                              rintro _ w94 ⟨rfl, H68⟩
                                              have hS76 := Kp.step hS75 H68
                                              have hB94 := Bl.step hB93 H68
                                              have hK471 := Blk.below hK464 H68
                                              have hK472 := Blk.below hK465 H68
                                              have hK473 := Blk.below hK466 H68
                                              have hK474 := Blk.below hK467 H68
                                              have hK475 := Blk.below hK468 H68
                                              have hK476 := Blk.below hK469 H68
                                              have hK477 := Blk.below hK470 H68
                                              have hR96 := hR94.mono (kept_below H68 (by omega))
                                              have hR97 := hR95.mono (kept_below H68 (by omega))
                                              have hz70 := H68.size
                                              refine ⟨hS76, ?_⟩
                                              refine RH.take 13 rfl (by kernel_rfl) rfl rfl rfl hS76 (fun W122 hW122 => Yl.mul (m := i * (totG d)) (n := worthM c) rfl rfl rfl (by omega)) ?_
                                              refine RH.one 16 (by kernel_rfl) ?_
                                              refine RO.fn rfl rfl rfl rfl (Yc.func #[.agg #[.slice p2 d.length cd]] rfl ok24 (args1 rfl)) (c24 ((hu.mono (kept_from hB0 hB94 (Nat.le_refl _))).wide (Nat.zero_le _) (by omega)) (validB_chanT hv_d)) ?_
                                              rintro _ w95 ⟨rfl, H69⟩
                                              have hS77 := Kp.step hS76 H69
                                              have hB95 := Bl.step hB94 H69
                                              have hK478 := Blk.below hK471 H69
                                              have hK479 := Blk.below hK472 H69
                                              have hK480 := Blk.below hK473 H69
                                              have hK481 := Blk.below hK474 H69
                                              have hK482 := Blk.below hK475 H69
                                              have hK483 := Blk.below hK476 H69
                                              have hK484 := Blk.below hK477 H69
                                              have hR98 := hR96.mono (kept_below H69 (by omega))
                                              have hR99 := hR97.mono (kept_below H69 (by omega))
                                              have hz71 := H69.size
                                              refine ⟨hS77, ?_⟩
                                              refine RH.take 17 rfl (by kernel_rfl) rfl rfl rfl hS77 (fun W124 hW124 => Yl.mul (m := j * (totG c)) (n := worthM d) rfl rfl rfl (by omega)) ?_
                                              refine RH.take 18 rfl (by kernel_rfl) rfl rfl rfl hS77 (fun W125 hW125 => Yl.add (m := (i * (totG d)) * (worthM c)) (n := (j * (totG c)) * (worthM d)) rfl rfl rfl (by omega)) ?_
                                              refine RH.take 19 rfl (by kernel_rfl) rfl rfl rfl hS77 (fun W126 hW126 => Yl.leq rfl rfl rfl) ?_
                                              refine RH.take 20 rfl (by kernel_rfl) rfl rfl rfl hS77 (fun W127 hW127 => Yl.pickT rfl rfl rfl) ?_
                                              refine RH.take 21 rfl (by kernel_rfl) rfl rfl rfl hS77 (fun W128 hW128 => Yl.assign rfl rfl) ?_
                                              refine RH.done (by kernel_rfl) ?_
                                              change CW _ _ _ _ _ _
                                              refine CW.ret ?_
                                              change FinQ _ _ _ _ _ _
                                              refine fin1 (.inr rfl) rfl rfl ?_
                                              exact ⟨_, rfl, bval (by first | rfl | exact decide_eq_true (by omega) | exact decide_eq_true (by assumption)), hB95⟩)
                                          ·
                                            have hq26 := of_decide_eq_false hg26
                                            first
                                            | (exfalso; omega)
                                            | (
                                              refine CW.draw 22 rfl (Kp []) (by kernel_rfl) ?_
                                              intro w96 H70
                                              have hB96 := Bl.step hB90 H70
                                              have hK485 := Blk.below hK443 H70
                                              have hK486 := Blk.below hK444 H70
                                              have hK487 := Blk.below hK445 H70
                                              have hK488 := Blk.below hK446 H70
                                              have hK489 := Blk.below hK447 H70
                                              have hK490 := Blk.below hK448 H70
                                              have hK491 := Blk.below hK449 H70
                                              have hR100 := hR88.mono (kept_below H70 (by omega))
                                              have hR101 := hR89.mono (kept_below H70 (by omega))
                                              have hz72 := H70.size
                                              have hS78 := Kp.refl [] w96
                                              refine RH.take 0 rfl (by kernel_rfl) rfl rfl rfl hS78 (fun W129 hW129 => Yl.move rfl rfl) ?_
                                              refine RH.take 1 rfl (by kernel_rfl) rfl rfl rfl hS78 (fun W130 hW130 => Yl.eqb (Yl.eql rfl rfl rfl) hg26) ?_
                                              refine RH.take 2 rfl (by kernel_rfl) rfl rfl rfl hS78 (fun W131 hW131 => Yl.move rfl rfl) ?_
                                              refine RH.pass 3 rfl (by kernel_rfl) rfl rfl rfl hS78 ?_
                                              refine RH.pass 4 rfl (by kernel_rfl) rfl rfl rfl hS78 ?_
                                              refine RH.pass 5 rfl (by kernel_rfl) rfl rfl rfl hS78 ?_
                                              refine RH.take 6 rfl (by kernel_rfl) rfl rfl rfl hS78 (fun W132 hW132 => Yl.pickF rfl rfl rfl) ?_
                                              refine RH.take 7 rfl (by kernel_rfl) rfl rfl rfl hS78 (fun W133 hW133 => Yl.move rfl rfl) ?_
                                              refine RH.pass 8 rfl (by kernel_rfl) rfl rfl rfl hS78 ?_
                                              refine RH.pass 9 rfl (by kernel_rfl) rfl rfl rfl hS78 ?_
                                              refine RH.pass 10 rfl (by kernel_rfl) rfl rfl rfl hS78 ?_
                                              refine RH.pass 11 rfl (by kernel_rfl) rfl rfl rfl hS78 ?_
                                              refine RH.pass 12 rfl (by kernel_rfl) rfl rfl rfl hS78 ?_
                                              refine RH.pass 13 rfl (by kernel_rfl) rfl rfl rfl hS78 ?_
                                              refine RH.pass 14 rfl (by kernel_rfl) rfl rfl rfl hS78 ?_
                                              refine RH.pass 15 rfl (by kernel_rfl) rfl rfl rfl hS78 ?_
                                              refine RH.pass 16 rfl (by kernel_rfl) rfl rfl rfl hS78 ?_
                                              refine RH.pass 17 rfl (by kernel_rfl) rfl rfl rfl hS78 ?_
                                              refine RH.pass 18 rfl (by kernel_rfl) rfl rfl rfl hS78 ?_
                                              refine RH.pass 19 rfl (by kernel_rfl) rfl rfl rfl hS78 ?_
                                              refine RH.take 20 rfl (by kernel_rfl) rfl rfl rfl hS78 (fun W134 hW134 => Yl.pickF rfl rfl rfl) ?_
                                              refine RH.take 21 rfl (by kernel_rfl) rfl rfl rfl hS78 (fun W135 hW135 => Yl.assign rfl rfl) ?_
                                              refine RH.done (by kernel_rfl) ?_
                                              change CW _ _ _ _ _ _
                                              refine CW.ret ?_
                                              change FinQ _ _ _ _ _ _
                                              refine fin1 (.inr rfl) rfl rfl ?_
                                              exact ⟨_, rfl, bval (by first | rfl | exact decide_eq_true (by omega) | exact decide_eq_true (by assumption)), hB96⟩))))))))
          ·
            have hq4 := of_decide_eq_false hg6
            have hk : hidR c d i j = ([], (lpairG c d)) := hidR_bad (of_decide_eq_false hg6)
            have hk1 : (hidR c d i j).1 = [] := by rw [hk]
            have hk2 : (hidR c d i j).2 = (lpairG c d) := by rw [hk]
            have hk3 : (hidR c d i j).1.length = 0 := by rw [hk]; rfl
            first
            | (exfalso; omega)
            | (
              refine CW.draw 15 rfl (Kp []) (by kernel_rfl) ?_
              intro w97 H71
              have hB97 := Bl.step hB11 H71
              have hK492 := Blk.below hK26 H71
              have hK493 := Blk.below hK27 H71
              have hK494 := Blk.below hK28 H71
              have hK495 := Blk.below hK29 H71
              have hR102 := hR4.mono (kept_below H71 (by omega))
              have hz73 := H71.size
              have hS79 := Kp.refl [] w97
              refine RH.take 0 rfl (by kernel_rfl) rfl rfl rfl hS79 (fun W136 hW136 => Yl.move rfl rfl) ?_
              refine RH.take 1 rfl (by kernel_rfl) rfl rfl rfl hS79 (fun W137 hW137 => Yl.eqb (Yl.eql rfl rfl rfl) hg6) ?_
              refine RH.take 2 rfl (by kernel_rfl) rfl rfl rfl hS79 (fun W138 hW138 => Yl.move rfl rfl) ?_
              refine RH.pass 3 rfl (by kernel_rfl) rfl rfl rfl hS79 ?_
              refine RH.pass 4 rfl (by kernel_rfl) rfl rfl rfl hS79 ?_
              refine RH.pass 5 rfl (by kernel_rfl) rfl rfl rfl hS79 ?_
              refine RH.pass 6 rfl (by kernel_rfl) rfl rfl rfl hS79 ?_
              refine RH.pass 7 rfl (by kernel_rfl) rfl rfl rfl hS79 ?_
              refine RH.pass 8 rfl (by kernel_rfl) rfl rfl rfl hS79 ?_
              refine RH.pass 9 rfl (by kernel_rfl) rfl rfl rfl hS79 ?_
              refine RH.pass 10 rfl (by kernel_rfl) rfl rfl rfl hS79 ?_
              refine RH.pass 11 rfl (by kernel_rfl) rfl rfl rfl hS79 ?_
              refine RH.pass 12 rfl (by kernel_rfl) rfl rfl rfl hS79 ?_
              refine RH.pass 13 rfl (by kernel_rfl) rfl rfl rfl hS79 ?_
              refine RH.take 14 rfl (by kernel_rfl) rfl rfl rfl hS79 (fun W139 hW139 => Yl.pickF rfl rfl rfl) ?_
              refine RH.done (by kernel_rfl) ?_
              change CW _ _ _ _ _ _
              refine CW.condF rfl ?_
              refine CW.skip ?_
              change CW _ _ _ _ _ _
              refine CW.seq ?_
              refine CW.seq ?_
              refine CW.region ?_
              refine RW.yl rfl rfl rfl (Yl.move rfl rfl) ?_
              refine RW.yl rfl rfl rfl (Yl.eqb (Yl.eql rfl rfl rfl) hg6) ?_
              refine RW.yl rfl rfl rfl (Yl.move rfl rfl) ?_
              refine RW.skip rfl rfl rfl ?_
              refine RW.skip rfl rfl rfl ?_
              refine RW.skip rfl rfl rfl ?_
              refine RW.skip rfl rfl rfl ?_
              refine RW.skip rfl rfl rfl ?_
              refine RW.skip rfl rfl rfl ?_
              refine RW.skip rfl rfl rfl ?_
              refine RW.skip rfl rfl rfl ?_
              refine RW.skip rfl rfl rfl ?_
              refine RW.skip rfl rfl rfl ?_
              refine RW.skip rfl rfl rfl ?_
              refine RW.skip rfl rfl rfl ?_
              refine RW.skip rfl rfl rfl ?_
              refine RW.skip rfl rfl rfl ?_
              refine RW.yl rfl rfl rfl (Yl.pickF rfl rfl rfl) ?_
              refine RW.nil ?_
              change CW _ _ _ _ _ _
              refine CW.condF rfl ?_
              refine CW.skip ?_
              change CW _ _ _ _ _ _
              refine CW.seq ?_
              refine CW.seq ?_
              refine CW.region ?_
              refine RW.yl rfl rfl rfl (Yl.move rfl rfl) ?_
              refine RW.yl rfl rfl rfl (Yl.eqb (Yl.eql rfl rfl rfl) hg6) ?_
              refine RW.nil ?_
              change CW _ _ _ _ _ _
              refine CW.condF rfl ?_
              refine CW.skip ?_
              change CW _ _ _ _ _ _
              refine CW.seq ?_
              refine CW.seq ?_
              refine CW.region ?_
              refine RW.yl rfl rfl rfl (Yl.move rfl rfl) ?_
              refine RW.yl rfl rfl rfl (Yl.eqb (Yl.neq rfl rfl rfl) (congrArg (fun b => !b) hg6)) ?_
              refine RW.nil ?_
              change CW _ _ _ _ _ _
              refine CW.condT rfl ?_
              refine CW.seq ?_
              rcases Bool.eq_false_or_eq_true (decide (((hidR c d i j).2) = (lpairG c d))) with hg27 | hg27
              ·
                have hq27 := of_decide_eq_true hg27
                first
                | (exfalso; omega)
                | (
                  refine CW.region ?_
                  refine RW.yl rfl rfl rfl (Yl.move rfl rfl) ?_
                  refine RW.yl rfl rfl rfl (Yl.move rfl rfl) ?_
                  refine RW.yl rfl rfl rfl (Yl.eqb (Yl.eql rfl rfl rfl) hg27) ?_
                  refine RW.yl rfl rfl rfl (Yl.move rfl rfl) ?_
                  refine RW.yl rfl rfl rfl (Yl.loadAgg (cs := [.slice ps1 (((hidR c d i j).1).length) cs1]) rfl rfl many24 (Blk.cells hK495)) ?_
                  refine RW.fn rfl rfl rfl (Yc.func #[.agg #[.slice ps1 (((hidR c d i j).1).length) cs1]] rfl ok18 (args1 rfl)) (c18 (hR102.wide (Nat.zero_le _) (by omega))) ?_
                  rintro _ w98 ⟨rfl, H72⟩
                  have hB98 := Bl.step hB97 H72
                  have hK496 := Blk.below hK492 H72
                  have hK497 := Blk.below hK493 H72
                  have hK498 := Blk.below hK494 H72
                  have hK499 := Blk.below hK495 H72
                  have hR103 := hR102.mono (kept_below H72 (by omega))
                  have hz74 := H72.size
                  refine RW.yl rfl rfl rfl (Yl.pickT rfl rfl rfl) ?_
                  refine RW.yl rfl rfl rfl (Yl.assign rfl rfl) ?_
                  refine RW.nil ?_
                  change CW _ _ _ _ _ _
                  refine CW.ret ?_
                  change FinQ _ _ _ _ _ _
                  refine fin1 (.inr rfl) rfl rfl ?_
                  exact ⟨_, rfl, bval (by first | rfl | exact decide_eq_true (by omega) | exact decide_eq_true (by assumption)), hB98⟩)
              ·
                have hq27 := of_decide_eq_false hg27
                first
                | (exfalso; omega)
                | (
                  refine CW.region ?_
                  refine RW.yl rfl rfl rfl (Yl.move rfl rfl) ?_
                  refine RW.yl rfl rfl rfl (Yl.move rfl rfl) ?_
                  refine RW.yl rfl rfl rfl (Yl.eqb (Yl.eql rfl rfl rfl) hg27) ?_
                  refine RW.yl rfl rfl rfl (Yl.move rfl rfl) ?_
                  refine RW.skip rfl rfl rfl ?_
                  refine RW.skip rfl rfl rfl ?_
                  refine RW.yl rfl rfl rfl (Yl.pickF rfl rfl rfl) ?_
                  refine RW.yl rfl rfl rfl (Yl.assign rfl rfl) ?_
                  refine RW.nil ?_
                  change CW _ _ _ _ _ _
                  refine CW.ret ?_
                  change FinQ _ _ _ _ _ _
                  refine fin1 (.inr rfl) rfl rfl ?_
                  exact ⟨_, rfl, bval (by first | rfl | exact decide_eq_true (by omega) | exact decide_eq_true (by assumption)), hB97⟩))))
  ·
    first
    | (exfalso; omega)
    | (
      refine CW.region ?_
      refine RW.yl rfl rfl rfl (Yl.loadAgg (cs := [.slice p c.length cc]) rfl rfl many24 (Blk.cells hK4)) ?_
      refine RW.fn rfl rfl rfl (Yc.func #[.agg #[.slice p c.length cc], .int .i64 20] rfl ok13 (args2 rfl rfl)) (c13 ((hv.mono (kept_from hB0 hB4 (Nat.le_refl _))).wide (Nat.zero_le _) (by omega))) ?_
      rintro _ w99 ⟨rfl, H73⟩
      have hB99 := Bl.step hB4 H73
      have hK500 := Blk.below hK4 H73
      have hK501 := Blk.below hK5 H73
      have hK502 := Blk.below hK6 H73
      have hz75 := H73.size
      rw [hg1]
      refine RW.yl rfl rfl rfl (Yl.not rfl rfl) ?_
      refine RW.yl rfl rfl rfl (Yl.move rfl rfl) ?_
      refine RW.skip rfl rfl rfl ?_
      refine RW.skip rfl rfl rfl ?_
      refine RW.skip rfl rfl rfl ?_
      refine RW.yl rfl rfl rfl (Yl.pickT rfl rfl rfl) ?_
      refine RW.nil ?_
      change CW _ _ _ _ _ _
      refine CW.condT rfl ?_
      refine CW.seq ?_
      refine CW.region ?_
      refine RW.yl rfl rfl rfl (Yl.assign rfl rfl) ?_
      refine RW.nil ?_
      change CW _ _ _ _ _ _
      refine CW.ret ?_
      change FinQ _ _ _ _ _ _
      refine fin1 (.inr rfl) rfl rfl ?_
      exact ⟨_, rfl, bval (by first | rfl | exact decide_eq_true (by omega) | exact decide_eq_true (by assumption)), hB99⟩)

end Go.Proofs.Ytodeffidnipelaa
