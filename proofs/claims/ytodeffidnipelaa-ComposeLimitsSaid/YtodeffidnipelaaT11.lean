/- ComposeLimits. -/
import Derived.Test.YtodeffidnipelaaM2
namespace Go.Proofs.Ytodeffidnipelaa
open Go.RowKit Go.Ev

theorem ok24 : fnOk Try.prog 24 := ⟨_, Try.func24, by kernel_rfl, rfl⟩
set_option maxHeartbeats 4000000 in
theorem c5 {w : World} {v u : Value} {c d : List (List Int)} (hv : RRows 0 w.heap.size w v c) (hu : RRows 0 w.heap.size w u d) :
    Calls Try.prog 5 #[.agg #[v], .agg #[u]] w (Ret fun r w' => r = .bool true ∧ Below w.heap.size w w') := by
  obtain ⟨p, cc, rfl, hl⟩ := hv.form
  obtain ⟨p2, cd, rfl, hl2⟩ := hu.form
  have hB0 : Below w.heap.size w w := Below.refl _ _
  refine Ev.calls (l := [.agg #[.slice p c.length cc], .agg #[.slice p2 d.length cd]]) Try.func5 rfl rfl rfl ?_
  change CW _ _ _ _ [(0, .agg #[.slice p c.length cc]), (1, .agg #[.slice p2 d.length cd])] _
  refine CW.seq ?_
  refine CW.region ?_
  refine RW.newP (cs := #[.slice p c.length cc]) (T := 24) rfl rfl rfl (Yv.box (v := .agg #[.slice p c.length cc]) rfl rfl) ?_
  intro b1 w1 N1
  have lo_b1 : w.heap.size ≤ b1 := by have := hB0.size; have := N1.num; omega
  have hn_b1 := N1.num
  have hs_b1 := N1.size
  have hB1 := Bl.step hB0 N1.below
  refine RW.newP (cs := #[.slice p2 d.length cd]) (T := 24) rfl rfl rfl (Yv.box (v := .agg #[.slice p2 d.length cd]) rfl rfl) ?_
  intro b2 w2 N2
  have ne1 := New.ne N2 N1.blk
  have lo_b2 : w.heap.size ≤ b2 := by have := hB1.size; have := N2.num; omega
  have hn_b2 := N2.num
  have hs_b2 := N2.size
  have hB2 := Bl.step hB1 N2.below
  have hK1 := Blk.below N1.blk N2.below
  refine RW.yl rfl rfl rfl (Yl.assign rfl rfl) ?_
  refine RW.nil ?_
  change CW _ _ _ _ _ _
  refine CW.seq ?_
  refine CW.seq ?_
  refine CW.region ?_
  refine RW.fn rfl rfl rfl (Yc.func #[] rfl ok12 (args0)) (c12) ?_
  rintro _ w3 ⟨rfl, H1⟩
  have hB3 := Bl.step hB2 H1
  have hK2 := Blk.below hK1 H1
  have hK3 := Blk.below N2.blk H1
  have hz1 := H1.size
  refine RW.yl rfl rfl rfl (Yl.not rfl rfl) ?_
  refine RW.nil ?_
  change CW _ _ _ _ _ _
  refine CW.condF rfl ?_
  refine CW.skip ?_
  change CW _ _ _ _ _ _
  refine CW.seq ?_
  refine CW.seq ?_
  rcases Bool.eq_false_or_eq_true (smallB c 8) with hg1 | hg1
  ·
    first
    | (exfalso; omega)
    | (
      rcases Bool.eq_false_or_eq_true (smallB d 8) with hg2 | hg2
      ·
        first
        | (exfalso; omega)
        | (
          rcases Bool.eq_false_or_eq_true (validB c) with hg3 | hg3
          ·
            have hv_c : validB c = true := hg3
            have ht_c := totG_bounds hv_c
            have hcc_c := validB_chan hv_c
            have hr1_c := hcc_c.r1
            have hr2_c := hcc_c.r2
            have hc1_c := hcc_c.c1
            have hc2_c := hcc_c.c2
            first
            | (exfalso; omega)
            | (
              refine CW.region ?_
              refine RW.yl rfl rfl rfl (Yl.loadAgg (cs := [.slice p c.length cc]) rfl rfl many24 (Blk.cells hK2)) ?_
              refine RW.fn rfl rfl rfl (Yc.func #[.agg #[.slice p c.length cc], .int .i64 8] rfl ok13 (args2 rfl rfl)) (c13 ((hv.mono (kept_from hB0 hB3 (Nat.le_refl _))).wide (Nat.zero_le _) (by omega))) ?_
              rintro _ w4 ⟨rfl, H2⟩
              have hB4 := Bl.step hB3 H2
              have hK4 := Blk.below hK2 H2
              have hK5 := Blk.below hK3 H2
              have hz2 := H2.size
              rw [hg1]
              refine RW.yl rfl rfl rfl (Yl.not rfl rfl) ?_
              refine RW.yl rfl rfl rfl (Yl.move rfl rfl) ?_
              refine RW.yl rfl rfl rfl (Yl.loadAgg (cs := [.slice p2 d.length cd]) rfl rfl many24 (Blk.cells hK5)) ?_
              refine RW.fn rfl rfl rfl (Yc.func #[.agg #[.slice p2 d.length cd], .int .i64 8] rfl ok13 (args2 rfl rfl)) (c13 ((hu.mono (kept_from hB0 hB4 (Nat.le_refl _))).wide (Nat.zero_le _) (by omega))) ?_
              rintro _ w5 ⟨rfl, H3⟩
              have hB5 := Bl.step hB4 H3
              have hK6 := Blk.below hK4 H3
              have hK7 := Blk.below hK5 H3
              have hz3 := H3.size
              rw [hg2]
              refine RW.yl rfl rfl rfl (Yl.not rfl rfl) ?_
              refine RW.yl rfl rfl rfl (Yl.pickF rfl rfl rfl) ?_
              refine RW.yl rfl rfl rfl (Yl.move rfl rfl) ?_
              refine RW.yl rfl rfl rfl (Yl.loadAgg (cs := [.slice p c.length cc]) rfl rfl many24 (Blk.cells hK6)) ?_
              refine RW.fn rfl rfl rfl (Yc.func #[.agg #[.slice p c.length cc]] rfl ok15 (args1 rfl)) (c15 ((hv.mono (kept_from hB0 hB5 (Nat.le_refl _))).wide (Nat.zero_le _) (by omega))) ?_
              rintro _ w6 ⟨rfl, H4⟩
              have hB6 := Bl.step hB5 H4
              have hK8 := Blk.below hK6 H4
              have hK9 := Blk.below hK7 H4
              have hz4 := H4.size
              rw [hg3]
              refine RW.yl rfl rfl rfl (Yl.not rfl rfl) ?_
              refine RW.yl rfl rfl rfl (Yl.pickF rfl rfl rfl) ?_
              refine RW.yl rfl rfl rfl (Yl.move rfl rfl) ?_
              refine RW.yl rfl rfl rfl (Yl.loadAgg (cs := [.slice p2 d.length cd]) rfl rfl many24 (Blk.cells hK9)) ?_
              refine RW.fn rfl rfl rfl (Yc.func #[.agg #[.slice p2 d.length cd]] rfl ok15 (args1 rfl)) (c15 ((hu.mono (kept_from hB0 hB6 (Nat.le_refl _))).wide (Nat.zero_le _) (by omega))) ?_
              rintro _ w7 ⟨rfl, H5⟩
              have hB7 := Bl.step hB6 H5
              have hK10 := Blk.below hK8 H5
              have hK11 := Blk.below hK9 H5
              have hz5 := H5.size
              refine RW.yl rfl rfl rfl (Yl.not rfl rfl) ?_
              refine RW.yl rfl rfl rfl (Yl.pickF rfl rfl rfl) ?_
              refine RW.nil ?_
              change CW _ _ _ _ _ _
              refine CW.cond rfl ?_ ?_
              ·
                intro hg4
                have hg5 : validB d = false := not_t hg4
                first
                | (exfalso; omega)
                | (
                  refine CW.seq ?_
                  refine CW.region ?_
                  refine RW.yl rfl rfl rfl (Yl.assign rfl rfl) ?_
                  refine RW.nil ?_
                  change CW _ _ _ _ _ _
                  refine CW.ret ?_
                  change FinQ _ _ _ _ _ _
                  refine fin1 (.inr rfl) rfl rfl ?_
                  exact ⟨_, rfl, bval (by first | rfl | exact decide_eq_true (by omega) | exact decide_eq_true (by assumption)), hB7⟩)
              ·
                intro hg6
                have hg7 : validB d = true := not_f hg6
                have hv_d : validB d = true := hg7
                have ht_d := totG_bounds hv_d
                have hcc_d := validB_chan hv_d
                have hr1_d := hcc_d.r1
                have hr2_d := hcc_d.r2
                have hc1_d := hcc_d.c1
                have hc2_d := hcc_d.c2
                obtain ⟨hwc, hwcd, hwctd⟩ := worth_mul_bounds hv_c hv_d
                obtain ⟨hwd, hwdc, hwdtc⟩ := worth_mul_bounds hv_d hv_c
                first
                | (exfalso; omega)
                | (
                  refine CW.skip ?_
                  change CW _ _ _ _ _ _
                  refine CW.seq ?_
                  refine CW.region ?_
                  refine RW.yl rfl rfl rfl (Yl.loadAgg (cs := [.slice p c.length cc]) rfl rfl many24 (Blk.cells hK10)) ?_
                  refine RW.yl rfl rfl rfl (Yl.loadAgg (cs := [.slice p2 d.length cd]) rfl rfl many24 (Blk.cells hK11)) ?_
                  refine RW.fn rfl rfl rfl (Yc.func #[.agg #[.slice p c.length cc], .agg #[.slice p2 d.length cd]] rfl ok14 (args2 rfl rfl)) (c14 ((hv.mono (kept_from hB0 hB7 (Nat.le_refl _))).wide (Nat.zero_le _) (by omega)) ((hu.mono (kept_from hB0 hB7 (Nat.le_refl _))).wide (Nat.zero_le _) (by omega))) ?_
                  rintro _ w8 ⟨s1, rfl, hR1, H6⟩
                  obtain ⟨ps1, cs1, rfl, hl1⟩ := hR1.form
                  have hB8 := Bl.step hB7 H6
                  have hK12 := Blk.below hK10 H6
                  have hK13 := Blk.below hK11 H6
                  have hz6 := H6.size
                  refine RW.yl rfl rfl rfl (Yl.move rfl rfl) ?_
                  refine RW.yl rfl rfl rfl (Yl.extract rfl rfl rfl) ?_
                  refine RW.yl rfl rfl rfl (Yl.extract rfl rfl rfl) ?_
                  refine RW.newP (cs := #[.slice none 0 0]) (T := 24) rfl rfl rfl (Yv.alloc (z := .agg #[.slice none 0 0]) rfl zero24) ?_
                  intro b3 w9 N3
                  have ne2 := New.ne N3 hK12
                  have ne3 := New.ne N3 hK13
                  have lo_b3 : w.heap.size ≤ b3 := by have := hB8.size; have := N3.num; omega
                  have hn_b3 := N3.num
                  have hs_b3 := N3.size
                  have hB9 := Bl.step hB8 N3.below
                  have hK14 := Blk.below hK12 N3.below
                  have hK15 := Blk.below hK13 N3.below
                  have hR2 := hR1.mono (kept_below N3.below (by omega))
                  refine RW.stoAll (cs' := #[.slice ps1 (((cascR c d).1).length) cs1]) rfl rfl N3.blk (Yu.storeAll rfl rfl rfl sz24 N3.blk rfl (by simp [Value.oneCell'])) ?_
                  intro w10 H7
                  have hB10 := Bl.sto hB9 H7 lo_b3
                  have hK16 := Blk.sto hK14 H7 ne2
                  have hK17 := Blk.sto hK15 H7 ne3
                  have hK18 := H7.blk
                  have hR3 := hR2.mono (kept_sto H7 (by omega) (by omega))
                  have hz7 := H7.size
                  refine RW.yl rfl rfl rfl (Yl.assign rfl rfl) ?_
                  refine RW.nil ?_
                  change CW _ _ _ _ _ _
                  refine CW.seq ?_
                  refine CW.seq ?_
                  rcases Bool.eq_false_or_eq_true (decide (((cascR c d).2) = 0)) with hg8 | hg8
                  ·
                    have hq6 := of_decide_eq_true hg8
                    obtain ⟨hv_p, hp1, hp2⟩ := cascR_facts hv_c hv_d (of_decide_eq_true hg8)
                    first
                    | (exfalso; omega)
                    | (
                      rcases Bool.eq_false_or_eq_true (decide (((worthM c) * (totG d)) < (worthM ((cascR c d).1)))) with hg9 | hg9
                      ·
                        have hq7 := of_decide_eq_true hg9
                        first
                        | (exfalso; omega)
                        | (
                          refine CW.draw 27 rfl (Kp []) (by kernel_rfl) ?_
                          intro w11 H8
                          have hB11 := Bl.step hB10 H8
                          have hK19 := Blk.below hK16 H8
                          have hK20 := Blk.below hK17 H8
                          have hK21 := Blk.below hK18 H8
                          have hR4 := hR3.mono (kept_below H8 (by omega))
                          have hz8 := H8.size
                          have hS1 := Kp.refl [] w11
                          refine RH.take 0 rfl (by kernel_rfl) rfl rfl rfl hS1 (fun W1 hW1 => Yl.move rfl rfl) ?_
                          refine RH.take 1 rfl (by kernel_rfl) rfl rfl rfl hS1 (fun W2 hW2 => Yl.eqb (Yl.eql rfl rfl rfl) hg8) ?_
                          refine RH.take 2 rfl (by kernel_rfl) rfl rfl rfl hS1 (fun W3 hW3 => Yl.move rfl rfl) ?_
                          refine RH.take 3 rfl (by kernel_rfl) rfl rfl rfl hS1 (fun W4 hW4 => Yl.loadAgg (cs := [.slice ps1 (((cascR c d).1).length) cs1]) rfl rfl many24 (Blk.cells (Kp.blk hW4 hK21 (by simp)))) ?_
                          refine RH.one 4 (by kernel_rfl) ?_
                          refine RO.fn rfl rfl rfl rfl (Yc.func #[.agg #[.slice ps1 (((cascR c d).1).length) cs1]] rfl ok15 (args1 rfl)) (c15 (hR4.wide (Nat.zero_le _) (by omega))) ?_
                          rintro _ w12 ⟨rfl, H9⟩
                          have hS2 := Kp.step hS1 H9
                          have hB12 := Bl.step hB11 H9
                          have hK22 := Blk.below hK19 H9
                          have hK23 := Blk.below hK20 H9
                          have hK24 := Blk.below hK21 H9
                          have hR5 := hR4.mono (kept_below H9 (by omega))
                          have hz9 := H9.size
                          rw [hv_p]
                          refine ⟨hS2, ?_⟩
                          refine RH.take 5 rfl (by kernel_rfl) rfl rfl rfl hS2 (fun W6 hW6 => Yl.not rfl rfl) ?_
                          refine RH.take 6 rfl (by kernel_rfl) rfl rfl rfl hS2 (fun W7 hW7 => Yl.move rfl rfl) ?_
                          refine RH.take 7 rfl (by kernel_rfl) rfl rfl rfl hS2 (fun W8 hW8 => Yl.loadAgg (cs := [.slice ps1 (((cascR c d).1).length) cs1]) rfl rfl many24 (Blk.cells (Kp.blk hW8 hK21 (by simp)))) ?_
                          refine RH.take 9 rfl (by kernel_rfl) rfl rfl rfl hS2 (fun W10 hW10 => Yl.loadAgg (cs := [.slice p c.length cc]) rfl rfl many24 (Blk.cells (Kp.blk hW10 hK19 (by simp)))) ?_
                          refine RH.take 11 rfl (by kernel_rfl) rfl rfl rfl hS2 (fun W12 hW12 => Yl.loadAgg (cs := [.slice p2 d.length cd]) rfl rfl many24 (Blk.cells (Kp.blk hW12 hK20 (by simp)))) ?_
                          refine RH.one 8 (by kernel_rfl) ?_
                          refine RO.fn rfl rfl rfl rfl (Yc.func #[.agg #[.slice ps1 (((cascR c d).1).length) cs1]] rfl ok24 (args1 rfl)) (c24 (hR5.wide (Nat.zero_le _) (by omega)) (validB_chanT hv_p)) ?_
                          rintro _ w13 ⟨rfl, H10⟩
                          have hS3 := Kp.step hS2 H10
                          have hB13 := Bl.step hB12 H10
                          have hK25 := Blk.below hK22 H10
                          have hK26 := Blk.below hK23 H10
                          have hK27 := Blk.below hK24 H10
                          have hR6 := hR5.mono (kept_below H10 (by omega))
                          have hz10 := H10.size
                          refine ⟨hS3, ?_⟩
                          refine RH.one 10 (by kernel_rfl) ?_
                          refine RO.fn rfl rfl rfl rfl (Yc.func #[.agg #[.slice p c.length cc]] rfl ok24 (args1 rfl)) (c24 ((hv.mono (kept_from hB0 hB13 (Nat.le_refl _))).wide (Nat.zero_le _) (by omega)) (validB_chanT hv_c)) ?_
                          rintro _ w14 ⟨rfl, H11⟩
                          have hS4 := Kp.step hS3 H11
                          have hB14 := Bl.step hB13 H11
                          have hK28 := Blk.below hK25 H11
                          have hK29 := Blk.below hK26 H11
                          have hK30 := Blk.below hK27 H11
                          have hR7 := hR6.mono (kept_below H11 (by omega))
                          have hz11 := H11.size
                          refine ⟨hS4, ?_⟩
                          refine RH.one 12 (by kernel_rfl) ?_
                          refine RO.fn rfl rfl rfl rfl (Yc.func #[.agg #[.slice p2 d.length cd]] rfl ok17 (args1 rfl)) (c17 ((hu.mono (kept_from hB0 hB14 (Nat.le_refl _))).wide (Nat.zero_le _) (by omega)) (validB_chanT hv_d)) ?_
                          rintro _ w15 ⟨rfl, H12⟩
                          have hS5 := Kp.step hS4 H12
                          have hB15 := Bl.step hB14 H12
                          have hK31 := Blk.below hK28 H12
                          have hK32 := Blk.below hK29 H12
                          have hK33 := Blk.below hK30 H12
                          have hR8 := hR7.mono (kept_below H12 (by omega))
                          have hz12 := H12.size
                          refine ⟨hS5, ?_⟩
                          refine RH.take 13 rfl (by kernel_rfl) rfl rfl rfl hS5 (fun W16 hW16 => Yl.mul (m := worthM c) (n := totG d) rfl rfl rfl (by omega)) ?_
                          refine RH.take 14 rfl (by kernel_rfl) rfl rfl rfl hS5 (fun W17 hW17 => Yl.eqb (Yl.gtr rfl rfl rfl) hg9) ?_
                          refine RH.take 15 rfl (by kernel_rfl) rfl rfl rfl hS5 (fun W18 hW18 => Yl.pickF rfl rfl rfl) ?_
                          refine RH.take 16 rfl (by kernel_rfl) rfl rfl rfl hS5 (fun W19 hW19 => Yl.move rfl rfl) ?_
                          refine RH.pass 17 rfl (by kernel_rfl) rfl rfl rfl hS5 ?_
                          refine RH.pass 18 rfl (by kernel_rfl) rfl rfl rfl hS5 ?_
                          refine RH.pass 19 rfl (by kernel_rfl) rfl rfl rfl hS5 ?_
                          refine RH.pass 20 rfl (by kernel_rfl) rfl rfl rfl hS5 ?_
                          refine RH.pass 21 rfl (by kernel_rfl) rfl rfl rfl hS5 ?_
                          refine RH.pass 22 rfl (by kernel_rfl) rfl rfl rfl hS5 ?_
                          refine RH.pass 23 rfl (by kernel_rfl) rfl rfl rfl hS5 ?_
                          refine RH.pass 24 rfl (by kernel_rfl) rfl rfl rfl hS5 ?_
                          refine RH.take 25 rfl (by kernel_rfl) rfl rfl rfl hS5 (fun W20 hW20 => Yl.pickT rfl rfl rfl) ?_
                          refine RH.take 26 rfl (by kernel_rfl) rfl rfl rfl hS5 (fun W21 hW21 => Yl.pickT rfl rfl rfl) ?_
                          refine RH.done (by kernel_rfl) ?_
                          change CW _ _ _ _ _ _
                          refine CW.condT rfl ?_
                          refine CW.seq ?_
                          refine CW.region ?_
                          refine RW.yl rfl rfl rfl (Yl.assign rfl rfl) ?_
                          refine RW.nil ?_
                          change CW _ _ _ _ _ _
                          refine CW.ret ?_
                          change FinQ _ _ _ _ _ _
                          refine fin1 (.inr rfl) rfl rfl ?_
                          exact ⟨_, rfl, bval (by first | rfl | exact decide_eq_true (by omega) | exact decide_eq_true (by assumption)), hB15⟩)
                      ·
                        have hq7 := of_decide_eq_false hg9
                        first
                        | (exfalso; omega)
                        | (
                          refine CW.draw 27 rfl (Kp []) (by kernel_rfl) ?_
                          intro w16 H13
                          have hB16 := Bl.step hB10 H13
                          have hK34 := Blk.below hK16 H13
                          have hK35 := Blk.below hK17 H13
                          have hK36 := Blk.below hK18 H13
                          have hR9 := hR3.mono (kept_below H13 (by omega))
                          have hz13 := H13.size
                          have hS6 := Kp.refl [] w16
                          refine RH.take 0 rfl (by kernel_rfl) rfl rfl rfl hS6 (fun W22 hW22 => Yl.move rfl rfl) ?_
                          refine RH.take 1 rfl (by kernel_rfl) rfl rfl rfl hS6 (fun W23 hW23 => Yl.eqb (Yl.eql rfl rfl rfl) hg8) ?_
                          refine RH.take 2 rfl (by kernel_rfl) rfl rfl rfl hS6 (fun W24 hW24 => Yl.move rfl rfl) ?_
                          refine RH.take 3 rfl (by kernel_rfl) rfl rfl rfl hS6 (fun W25 hW25 => Yl.loadAgg (cs := [.slice ps1 (((cascR c d).1).length) cs1]) rfl rfl many24 (Blk.cells (Kp.blk hW25 hK36 (by simp)))) ?_
                          refine RH.one 4 (by kernel_rfl) ?_
                          refine RO.fn rfl rfl rfl rfl (Yc.func #[.agg #[.slice ps1 (((cascR c d).1).length) cs1]] rfl ok15 (args1 rfl)) (c15 (hR9.wide (Nat.zero_le _) (by omega))) ?_
                          rintro _ w17 ⟨rfl, H14⟩
                          have hS7 := Kp.step hS6 H14
                          have hB17 := Bl.step hB16 H14
                          have hK37 := Blk.below hK34 H14
                          have hK38 := Blk.below hK35 H14
                          have hK39 := Blk.below hK36 H14
                          have hR10 := hR9.mono (kept_below H14 (by omega))
                          have hz14 := H14.size
                          rw [hv_p]
                          refine ⟨hS7, ?_⟩
                          refine RH.take 5 rfl (by kernel_rfl) rfl rfl rfl hS7 (fun W27 hW27 => Yl.not rfl rfl) ?_
                          refine RH.take 6 rfl (by kernel_rfl) rfl rfl rfl hS7 (fun W28 hW28 => Yl.move rfl rfl) ?_
                          refine RH.take 7 rfl (by kernel_rfl) rfl rfl rfl hS7 (fun W29 hW29 => Yl.loadAgg (cs := [.slice ps1 (((cascR c d).1).length) cs1]) rfl rfl many24 (Blk.cells (Kp.blk hW29 hK36 (by simp)))) ?_
                          refine RH.take 9 rfl (by kernel_rfl) rfl rfl rfl hS7 (fun W31 hW31 => Yl.loadAgg (cs := [.slice p c.length cc]) rfl rfl many24 (Blk.cells (Kp.blk hW31 hK34 (by simp)))) ?_
                          refine RH.take 11 rfl (by kernel_rfl) rfl rfl rfl hS7 (fun W33 hW33 => Yl.loadAgg (cs := [.slice p2 d.length cd]) rfl rfl many24 (Blk.cells (Kp.blk hW33 hK35 (by simp)))) ?_
                          refine RH.one 8 (by kernel_rfl) ?_
                          refine RO.fn rfl rfl rfl rfl (Yc.func #[.agg #[.slice ps1 (((cascR c d).1).length) cs1]] rfl ok24 (args1 rfl)) (c24 (hR10.wide (Nat.zero_le _) (by omega)) (validB_chanT hv_p)) ?_
                          rintro _ w18 ⟨rfl, H15⟩
                          have hS8 := Kp.step hS7 H15
                          have hB18 := Bl.step hB17 H15
                          have hK40 := Blk.below hK37 H15
                          have hK41 := Blk.below hK38 H15
                          have hK42 := Blk.below hK39 H15
                          have hR11 := hR10.mono (kept_below H15 (by omega))
                          have hz15 := H15.size
                          refine ⟨hS8, ?_⟩
                          refine RH.one 10 (by kernel_rfl) ?_
                          refine RO.fn rfl rfl rfl rfl (Yc.func #[.agg #[.slice p c.length cc]] rfl ok24 (args1 rfl)) (c24 ((hv.mono (kept_from hB0 hB18 (Nat.le_refl _))).wide (Nat.zero_le _) (by omega)) (validB_chanT hv_c)) ?_
                          rintro _ w19 ⟨rfl, H16⟩
                          have hS9 := Kp.step hS8 H16
                          have hB19 := Bl.step hB18 H16
                          have hK43 := Blk.below hK40 H16
                          have hK44 := Blk.below hK41 H16
                          have hK45 := Blk.below hK42 H16
                          have hR12 := hR11.mono (kept_below H16 (by omega))
                          have hz16 := H16.size
                          refine ⟨hS9, ?_⟩
                          refine RH.one 12 (by kernel_rfl) ?_
                          refine RO.fn rfl rfl rfl rfl (Yc.func #[.agg #[.slice p2 d.length cd]] rfl ok17 (args1 rfl)) (c17 ((hu.mono (kept_from hB0 hB19 (Nat.le_refl _))).wide (Nat.zero_le _) (by omega)) (validB_chanT hv_d)) ?_
                          rintro _ w20 ⟨rfl, H17⟩
                          have hS10 := Kp.step hS9 H17
                          have hB20 := Bl.step hB19 H17
                          have hK46 := Blk.below hK43 H17
                          have hK47 := Blk.below hK44 H17
                          have hK48 := Blk.below hK45 H17
                          have hR13 := hR12.mono (kept_below H17 (by omega))
                          have hz17 := H17.size
                          refine ⟨hS10, ?_⟩
                          refine RH.take 13 rfl (by kernel_rfl) rfl rfl rfl hS10 (fun W37 hW37 => Yl.mul (m := worthM c) (n := totG d) rfl rfl rfl (by omega)) ?_
                          refine RH.take 14 rfl (by kernel_rfl) rfl rfl rfl hS10 (fun W38 hW38 => Yl.eqb (Yl.gtr rfl rfl rfl) hg9) ?_
                          refine RH.take 15 rfl (by kernel_rfl) rfl rfl rfl hS10 (fun W39 hW39 => Yl.pickF rfl rfl rfl) ?_
                          refine RH.take 16 rfl (by kernel_rfl) rfl rfl rfl hS10 (fun W40 hW40 => Yl.move rfl rfl) ?_
                          refine RH.take 17 rfl (by kernel_rfl) rfl rfl rfl hS10 (fun W41 hW41 => Yl.loadAgg (cs := [.slice ps1 (((cascR c d).1).length) cs1]) rfl rfl many24 (Blk.cells (Kp.blk hW41 hK36 (by simp)))) ?_
                          refine RH.take 19 rfl (by kernel_rfl) rfl rfl rfl hS10 (fun W43 hW43 => Yl.loadAgg (cs := [.slice p2 d.length cd]) rfl rfl many24 (Blk.cells (Kp.blk hW43 hK35 (by simp)))) ?_
                          refine RH.take 21 rfl (by kernel_rfl) rfl rfl rfl hS10 (fun W45 hW45 => Yl.loadAgg (cs := [.slice p c.length cc]) rfl rfl many24 (Blk.cells (Kp.blk hW45 hK34 (by simp)))) ?_
                          refine RH.one 18 (by kernel_rfl) ?_
                          refine RO.fn rfl rfl rfl rfl (Yc.func #[.agg #[.slice ps1 (((cascR c d).1).length) cs1]] rfl ok24 (args1 rfl)) (c24 (hR13.wide (Nat.zero_le _) (by omega)) (validB_chanT hv_p)) ?_
                          rintro _ w21 ⟨rfl, H18⟩
                          have hS11 := Kp.step hS10 H18
                          have hB21 := Bl.step hB20 H18
                          have hK49 := Blk.below hK46 H18
                          have hK50 := Blk.below hK47 H18
                          have hK51 := Blk.below hK48 H18
                          have hR14 := hR13.mono (kept_below H18 (by omega))
                          have hz18 := H18.size
                          refine ⟨hS11, ?_⟩
                          refine RH.one 20 (by kernel_rfl) ?_
                          refine RO.fn rfl rfl rfl rfl (Yc.func #[.agg #[.slice p2 d.length cd]] rfl ok24 (args1 rfl)) (c24 ((hu.mono (kept_from hB0 hB21 (Nat.le_refl _))).wide (Nat.zero_le _) (by omega)) (validB_chanT hv_d)) ?_
                          rintro _ w22 ⟨rfl, H19⟩
                          have hS12 := Kp.step hS11 H19
                          have hB22 := Bl.step hB21 H19
                          have hK52 := Blk.below hK49 H19
                          have hK53 := Blk.below hK50 H19
                          have hK54 := Blk.below hK51 H19
                          have hR15 := hR14.mono (kept_below H19 (by omega))
                          have hz19 := H19.size
                          refine ⟨hS12, ?_⟩
                          refine RH.one 22 (by kernel_rfl) ?_
                          refine RO.fn rfl rfl rfl rfl (Yc.func #[.agg #[.slice p c.length cc]] rfl ok17 (args1 rfl)) (c17 ((hv.mono (kept_from hB0 hB22 (Nat.le_refl _))).wide (Nat.zero_le _) (by omega)) (validB_chanT hv_c)) ?_
                          rintro _ w23 ⟨rfl, H20⟩
                          have hS13 := Kp.step hS12 H20
                          have hB23 := Bl.step hB22 H20
                          have hK55 := Blk.below hK52 H20
                          have hK56 := Blk.below hK53 H20
                          have hK57 := Blk.below hK54 H20
                          have hR16 := hR15.mono (kept_below H20 (by omega))
                          have hz20 := H20.size
                          refine ⟨hS13, ?_⟩
                          refine RH.take 23 rfl (by kernel_rfl) rfl rfl rfl hS13 (fun W49 hW49 => Yl.mul (m := worthM d) (n := totG c) rfl rfl rfl (by omega)) ?_
                          refine RH.take 24 rfl (by kernel_rfl) rfl rfl rfl hS13 (fun W50 hW50 => Yl.gtr rfl rfl rfl) ?_
                          refine RH.take 25 rfl (by kernel_rfl) rfl rfl rfl hS13 (fun W51 hW51 => Yl.pickF rfl rfl rfl) ?_
                          refine RH.take 26 rfl (by kernel_rfl) rfl rfl rfl hS13 (fun W52 hW52 => Yl.pickT rfl rfl rfl) ?_
                          refine RH.done (by kernel_rfl) ?_
                          change CW _ _ _ _ _ _
                          refine CW.cond rfl ?_ ?_
                          ·
                            intro hg10
                            have hq9 := of_decide_eq_true hg10
                            first
                            | (exfalso; omega)
                            | (
                              refine CW.seq ?_
                              refine CW.region ?_
                              refine RW.yl rfl rfl rfl (Yl.assign rfl rfl) ?_
                              refine RW.nil ?_
                              change CW _ _ _ _ _ _
                              refine CW.ret ?_
                              change FinQ _ _ _ _ _ _
                              refine fin1 (.inr rfl) rfl rfl ?_
                              exact ⟨_, rfl, bval (by first | rfl | exact decide_eq_true (by omega) | exact decide_eq_true (by assumption)), hB23⟩)
                          ·
                            intro hg11
                            have hq11 := of_decide_eq_false hg11
                            first
                            | (exfalso; omega)
                            | (
                              refine CW.skip ?_
                              change CW _ _ _ _ _ _
                              refine CW.seq ?_
                              refine CW.region ?_
                              refine RW.yl rfl rfl rfl (Yl.loadAgg (cs := [.slice p c.length cc]) rfl rfl many24 (Blk.cells hK55)) ?_
                              refine RW.yl rfl rfl rfl (Yl.loadAgg (cs := [.slice p2 d.length cd]) rfl rfl many24 (Blk.cells hK56)) ?_
                              refine RW.fn rfl rfl rfl (Yc.func #[.agg #[.slice p c.length cc], .agg #[.slice p2 d.length cd]] rfl ok21 (args2 rfl rfl)) (c21 ((hv.mono (kept_from hB0 hB23 (Nat.le_refl _))).wide (Nat.zero_le _) (by omega)) ((hu.mono (kept_from hB0 hB23 (Nat.le_refl _))).wide (Nat.zero_le _) (by omega))) ?_
                              rintro _ w24 ⟨s2, rfl, hR17, H21⟩
                              obtain ⟨ps2, cs2, rfl, hl2⟩ := hR17.form
                              have hB24 := Bl.step hB23 H21
                              have hK58 := Blk.below hK55 H21
                              have hK59 := Blk.below hK56 H21
                              have hK60 := Blk.below hK57 H21
                              have hR18 := hR16.mono (kept_below H21 (by omega))
                              have hz21 := H21.size
                              refine RW.yl rfl rfl rfl (Yl.move rfl rfl) ?_
                              refine RW.yl rfl rfl rfl (Yl.extract rfl rfl rfl) ?_
                              refine RW.yl rfl rfl rfl (Yl.extract rfl rfl rfl) ?_
                              refine RW.newP (cs := #[.slice none 0 0]) (T := 24) rfl rfl rfl (Yv.alloc (z := .agg #[.slice none 0 0]) rfl zero24) ?_
                              intro b4 w25 N4
                              have ne4 := New.ne N4 hK58
                              have ne5 := New.ne N4 hK59
                              have ne6 := New.ne N4 hK60
                              have lo_b4 : w.heap.size ≤ b4 := by have := hB24.size; have := N4.num; omega
                              have hn_b4 := N4.num
                              have hs_b4 := N4.size
                              have hB25 := Bl.step hB24 N4.below
                              have hK61 := Blk.below hK58 N4.below
                              have hK62 := Blk.below hK59 N4.below
                              have hK63 := Blk.below hK60 N4.below
                              have hR19 := hR18.mono (kept_below N4.below (by omega))
                              have hR20 := hR17.mono (kept_below N4.below (by omega))
                              refine RW.stoAll (cs' := #[.slice ps2 (((parR c d).1).length) cs2]) rfl rfl N4.blk (Yu.storeAll rfl rfl rfl sz24 N4.blk rfl (by simp [Value.oneCell'])) ?_
                              intro w26 H22
                              have hB26 := Bl.sto hB25 H22 lo_b4
                              have hK64 := Blk.sto hK61 H22 ne4
                              have hK65 := Blk.sto hK62 H22 ne5
                              have hK66 := Blk.sto hK63 H22 ne6
                              have hK67 := H22.blk
                              have hR21 := hR19.mono (kept_sto H22 (by omega) (by omega))
                              have hR22 := hR20.mono (kept_sto H22 (by omega) (by omega))
                              have hz22 := H22.size
                              refine RW.yl rfl rfl rfl (Yl.assign rfl rfl) ?_
                              refine RW.nil ?_
                              change CW _ _ _ _ _ _
                              refine CW.seq ?_
                              rcases Bool.eq_false_or_eq_true (decide (((parR c d).2) = 0)) with hg12 | hg12
                              ·
                                have hq12 := of_decide_eq_true hg12
                                obtain ⟨hv_q, hq1, hq2, hq3⟩ := parR_facts hv_c hv_d (of_decide_eq_true hg12)
                                first
                                | (exfalso; omega)
                                | (
                                  rcases Bool.eq_false_or_eq_true (decide ((worthM ((parR c d).1)) ≤ ((worthM c) * (worthM d)))) with hg13 | hg13
                                  ·
                                    have hq13 := of_decide_eq_true hg13
                                    first
                                    | (exfalso; omega)
                                    | (
                                      rcases Bool.eq_false_or_eq_true (decide (((worthM c) * (totG d)) ≤ (worthM ((parR c d).1)))) with hg14 | hg14
                                      ·
                                        have hq14 := of_decide_eq_true hg14
                                        first
                                        | (exfalso; omega)
                                        | (
                                          refine CW.draw 37 rfl (Kp []) (by kernel_rfl) ?_
                                          intro w27 H23
                                          have hB27 := Bl.step hB26 H23
                                          have hK68 := Blk.below hK64 H23
                                          have hK69 := Blk.below hK65 H23
                                          have hK70 := Blk.below hK66 H23
                                          have hK71 := Blk.below hK67 H23
                                          have hR23 := hR21.mono (kept_below H23 (by omega))
                                          have hR24 := hR22.mono (kept_below H23 (by omega))
                                          have hz23 := H23.size
                                          have hS14 := Kp.refl [] w27
                                          refine RH.take 0 rfl (by kernel_rfl) rfl rfl rfl hS14 (fun W53 hW53 => Yl.move rfl rfl) ?_
                                          refine RH.take 1 rfl (by kernel_rfl) rfl rfl rfl hS14 (fun W54 hW54 => Yl.eqb (Yl.neq rfl rfl rfl) (congrArg (fun b => !b) hg12)) ?_
                                          refine RH.take 2 rfl (by kernel_rfl) rfl rfl rfl hS14 (fun W55 hW55 => Yl.move rfl rfl) ?_
                                          refine RH.take 3 rfl (by kernel_rfl) rfl rfl rfl hS14 (fun W56 hW56 => Yl.loadAgg (cs := [.slice ps2 (((parR c d).1).length) cs2]) rfl rfl many24 (Blk.cells (Kp.blk hW56 hK71 (by simp)))) ?_
                                          refine RH.one 4 (by kernel_rfl) ?_
                                          refine RO.fn rfl rfl rfl rfl (Yc.func #[.agg #[.slice ps2 (((parR c d).1).length) cs2]] rfl ok15 (args1 rfl)) (c15 (hR24.wide (Nat.zero_le _) (by omega))) ?_
                                          rintro _ w28 ⟨rfl, H24⟩
                                          have hS15 := Kp.step hS14 H24
                                          have hB28 := Bl.step hB27 H24
                                          have hK72 := Blk.below hK68 H24
                                          have hK73 := Blk.below hK69 H24
                                          have hK74 := Blk.below hK70 H24
                                          have hK75 := Blk.below hK71 H24
                                          have hR25 := hR23.mono (kept_below H24 (by omega))
                                          have hR26 := hR24.mono (kept_below H24 (by omega))
                                          have hz24 := H24.size
                                          rw [hv_q]
                                          refine ⟨hS15, ?_⟩
                                          refine RH.take 5 rfl (by kernel_rfl) rfl rfl rfl hS15 (fun W58 hW58 => Yl.move rfl rfl) ?_
                                          refine RH.take 6 rfl (by kernel_rfl) rfl rfl rfl hS15 (fun W59 hW59 => Yl.loadAgg (cs := [.slice ps2 (((parR c d).1).length) cs2]) rfl rfl many24 (Blk.cells (Kp.blk hW59 hK71 (by simp)))) ?_
                                          refine RH.take 8 rfl (by kernel_rfl) rfl rfl rfl hS15 (fun W61 hW61 => Yl.loadAgg (cs := [.slice p c.length cc]) rfl rfl many24 (Blk.cells (Kp.blk hW61 hK68 (by simp)))) ?_
                                          refine RH.take 10 rfl (by kernel_rfl) rfl rfl rfl hS15 (fun W63 hW63 => Yl.loadAgg (cs := [.slice p2 d.length cd]) rfl rfl many24 (Blk.cells (Kp.blk hW63 hK69 (by simp)))) ?_
                                          refine RH.one 7 (by kernel_rfl) ?_
                                          refine RO.fn rfl rfl rfl rfl (Yc.func #[.agg #[.slice ps2 (((parR c d).1).length) cs2]] rfl ok24 (args1 rfl)) (c24 (hR26.wide (Nat.zero_le _) (by omega)) (validB_chanT hv_q)) ?_
                                          rintro _ w29 ⟨rfl, H25⟩
                                          have hS16 := Kp.step hS15 H25
                                          have hB29 := Bl.step hB28 H25
                                          have hK76 := Blk.below hK72 H25
                                          have hK77 := Blk.below hK73 H25
                                          have hK78 := Blk.below hK74 H25
                                          have hK79 := Blk.below hK75 H25
                                          have hR27 := hR25.mono (kept_below H25 (by omega))
                                          have hR28 := hR26.mono (kept_below H25 (by omega))
                                          have hz25 := H25.size
                                          refine ⟨hS16, ?_⟩
                                          refine RH.one 9 (by kernel_rfl) ?_
                                          refine RO.fn rfl rfl rfl rfl (Yc.func #[.agg #[.slice p c.length cc]] rfl ok24 (args1 rfl)) (c24 ((hv.mono (kept_from hB0 hB29 (Nat.le_refl _))).wide (Nat.zero_le _) (by omega)) (validB_chanT hv_c)) ?_
                                          rintro _ w30 ⟨rfl, H26⟩
                                          have hS17 := Kp.step hS16 H26
                                          have hB30 := Bl.step hB29 H26
                                          have hK80 := Blk.below hK76 H26
                                          have hK81 := Blk.below hK77 H26
                                          have hK82 := Blk.below hK78 H26
                                          have hK83 := Blk.below hK79 H26
                                          have hR29 := hR27.mono (kept_below H26 (by omega))
                                          have hR30 := hR28.mono (kept_below H26 (by omega))
                                          have hz26 := H26.size
                                          refine ⟨hS17, ?_⟩
                                          refine RH.one 11 (by kernel_rfl) ?_
                                          refine RO.fn rfl rfl rfl rfl (Yc.func #[.agg #[.slice p2 d.length cd]] rfl ok24 (args1 rfl)) (c24 ((hu.mono (kept_from hB0 hB30 (Nat.le_refl _))).wide (Nat.zero_le _) (by omega)) (validB_chanT hv_d)) ?_
                                          rintro _ w31 ⟨rfl, H27⟩
                                          have hS18 := Kp.step hS17 H27
                                          have hB31 := Bl.step hB30 H27
                                          have hK84 := Blk.below hK80 H27
                                          have hK85 := Blk.below hK81 H27
                                          have hK86 := Blk.below hK82 H27
                                          have hK87 := Blk.below hK83 H27
                                          have hR31 := hR29.mono (kept_below H27 (by omega))
                                          have hR32 := hR30.mono (kept_below H27 (by omega))
                                          have hz27 := H27.size
                                          refine ⟨hS18, ?_⟩
                                          refine RH.take 12 rfl (by kernel_rfl) rfl rfl rfl hS18 (fun W67 hW67 => Yl.mul (m := worthM c) (n := worthM d) rfl rfl rfl (by omega)) ?_
                                          refine RH.take 13 rfl (by kernel_rfl) rfl rfl rfl hS18 (fun W68 hW68 => Yl.eqb (Yl.leq rfl rfl rfl) hg13) ?_
                                          refine RH.take 14 rfl (by kernel_rfl) rfl rfl rfl hS18 (fun W69 hW69 => Yl.pickT rfl rfl rfl) ?_
                                          refine RH.take 15 rfl (by kernel_rfl) rfl rfl rfl hS18 (fun W70 hW70 => Yl.move rfl rfl) ?_
                                          refine RH.take 16 rfl (by kernel_rfl) rfl rfl rfl hS18 (fun W71 hW71 => Yl.loadAgg (cs := [.slice ps2 (((parR c d).1).length) cs2]) rfl rfl many24 (Blk.cells (Kp.blk hW71 hK71 (by simp)))) ?_
                                          refine RH.take 18 rfl (by kernel_rfl) rfl rfl rfl hS18 (fun W73 hW73 => Yl.loadAgg (cs := [.slice p c.length cc]) rfl rfl many24 (Blk.cells (Kp.blk hW73 hK68 (by simp)))) ?_
                                          refine RH.take 20 rfl (by kernel_rfl) rfl rfl rfl hS18 (fun W75 hW75 => Yl.loadAgg (cs := [.slice p2 d.length cd]) rfl rfl many24 (Blk.cells (Kp.blk hW75 hK69 (by simp)))) ?_
                                          refine RH.one 17 (by kernel_rfl) ?_
                                          refine RO.fn rfl rfl rfl rfl (Yc.func #[.agg #[.slice ps2 (((parR c d).1).length) cs2]] rfl ok24 (args1 rfl)) (c24 (hR32.wide (Nat.zero_le _) (by omega)) (validB_chanT hv_q)) ?_
                                          rintro _ w32 ⟨rfl, H28⟩
                                          have hS19 := Kp.step hS18 H28
                                          have hB32 := Bl.step hB31 H28
                                          have hK88 := Blk.below hK84 H28
                                          have hK89 := Blk.below hK85 H28
                                          have hK90 := Blk.below hK86 H28
                                          have hK91 := Blk.below hK87 H28
                                          have hR33 := hR31.mono (kept_below H28 (by omega))
                                          have hR34 := hR32.mono (kept_below H28 (by omega))
                                          have hz28 := H28.size
                                          refine ⟨hS19, ?_⟩
                                          refine RH.one 19 (by kernel_rfl) ?_
                                          refine RO.fn rfl rfl rfl rfl (Yc.func #[.agg #[.slice p c.length cc]] rfl ok24 (args1 rfl)) (c24 ((hv.mono (kept_from hB0 hB32 (Nat.le_refl _))).wide (Nat.zero_le _) (by omega)) (validB_chanT hv_c)) ?_
                                          rintro _ w33 ⟨rfl, H29⟩
                                          have hS20 := Kp.step hS19 H29
                                          have hB33 := Bl.step hB32 H29
                                          have hK92 := Blk.below hK88 H29
                                          have hK93 := Blk.below hK89 H29
                                          have hK94 := Blk.below hK90 H29
                                          have hK95 := Blk.below hK91 H29
                                          have hR35 := hR33.mono (kept_below H29 (by omega))
                                          have hR36 := hR34.mono (kept_below H29 (by omega))
                                          have hz29 := H29.size
                                          refine ⟨hS20, ?_⟩
                                          refine RH.one 21 (by kernel_rfl) ?_
                                          refine RO.fn rfl rfl rfl rfl (Yc.func #[.agg #[.slice p2 d.length cd]] rfl ok17 (args1 rfl)) (c17 ((hu.mono (kept_from hB0 hB33 (Nat.le_refl _))).wide (Nat.zero_le _) (by omega)) (validB_chanT hv_d)) ?_
                                          rintro _ w34 ⟨rfl, H30⟩
                                          have hS21 := Kp.step hS20 H30
                                          have hB34 := Bl.step hB33 H30
                                          have hK96 := Blk.below hK92 H30
                                          have hK97 := Blk.below hK93 H30
                                          have hK98 := Blk.below hK94 H30
                                          have hK99 := Blk.below hK95 H30
                                          have hR37 := hR35.mono (kept_below H30 (by omega))
                                          have hR38 := hR36.mono (kept_below H30 (by omega))
                                          have hz30 := H30.size
                                          refine ⟨hS21, ?_⟩
                                          refine RH.take 22 rfl (by kernel_rfl) rfl rfl rfl hS21 (fun W79 hW79 => Yl.mul (m := worthM c) (n := totG d) rfl rfl rfl (by omega)) ?_
                                          refine RH.take 23 rfl (by kernel_rfl) rfl rfl rfl hS21 (fun W80 hW80 => Yl.eqb (Yl.geq rfl rfl rfl) hg14) ?_
                                          refine RH.take 24 rfl (by kernel_rfl) rfl rfl rfl hS21 (fun W81 hW81 => Yl.pickT rfl rfl rfl) ?_
                                          refine RH.take 25 rfl (by kernel_rfl) rfl rfl rfl hS21 (fun W82 hW82 => Yl.move rfl rfl) ?_
                                          refine RH.take 26 rfl (by kernel_rfl) rfl rfl rfl hS21 (fun W83 hW83 => Yl.loadAgg (cs := [.slice ps2 (((parR c d).1).length) cs2]) rfl rfl many24 (Blk.cells (Kp.blk hW83 hK71 (by simp)))) ?_
                                          refine RH.take 28 rfl (by kernel_rfl) rfl rfl rfl hS21 (fun W85 hW85 => Yl.loadAgg (cs := [.slice p2 d.length cd]) rfl rfl many24 (Blk.cells (Kp.blk hW85 hK69 (by simp)))) ?_
                                          refine RH.take 30 rfl (by kernel_rfl) rfl rfl rfl hS21 (fun W87 hW87 => Yl.loadAgg (cs := [.slice p c.length cc]) rfl rfl many24 (Blk.cells (Kp.blk hW87 hK68 (by simp)))) ?_
                                          refine RH.one 27 (by kernel_rfl) ?_
                                          refine RO.fn rfl rfl rfl rfl (Yc.func #[.agg #[.slice ps2 (((parR c d).1).length) cs2]] rfl ok24 (args1 rfl)) (c24 (hR38.wide (Nat.zero_le _) (by omega)) (validB_chanT hv_q)) ?_
                                          rintro _ w35 ⟨rfl, H31⟩
                                          have hS22 := Kp.step hS21 H31
                                          have hB35 := Bl.step hB34 H31
                                          have hK100 := Blk.below hK96 H31
                                          have hK101 := Blk.below hK97 H31
                                          have hK102 := Blk.below hK98 H31
                                          have hK103 := Blk.below hK99 H31
                                          have hR39 := hR37.mono (kept_below H31 (by omega))
                                          have hR40 := hR38.mono (kept_below H31 (by omega))
                                          have hz31 := H31.size
                                          refine ⟨hS22, ?_⟩
                                          refine RH.one 29 (by kernel_rfl) ?_
                                          refine RO.fn rfl rfl rfl rfl (Yc.func #[.agg #[.slice p2 d.length cd]] rfl ok24 (args1 rfl)) (c24 ((hu.mono (kept_from hB0 hB35 (Nat.le_refl _))).wide (Nat.zero_le _) (by omega)) (validB_chanT hv_d)) ?_
                                          rintro _ w36 ⟨rfl, H32⟩
                                          have hS23 := Kp.step hS22 H32
                                          have hB36 := Bl.step hB35 H32
                                          have hK104 := Blk.below hK100 H32
                                          have hK105 := Blk.below hK101 H32
                                          have hK106 := Blk.below hK102 H32
                                          have hK107 := Blk.below hK103 H32
                                          have hR41 := hR39.mono (kept_below H32 (by omega))
                                          have hR42 := hR40.mono (kept_below H32 (by omega))
                                          have hz32 := H32.size
                                          refine ⟨hS23, ?_⟩
                                          refine RH.one 31 (by kernel_rfl) ?_
                                          refine RO.fn rfl rfl rfl rfl (Yc.func #[.agg #[.slice p c.length cc]] rfl ok17 (args1 rfl)) (c17 ((hv.mono (kept_from hB0 hB36 (Nat.le_refl _))).wide (Nat.zero_le _) (by omega)) (validB_chanT hv_c)) ?_
                                          rintro _ w37 ⟨rfl, H33⟩
                                          have hS24 := Kp.step hS23 H33
                                          have hB37 := Bl.step hB36 H33
                                          have hK108 := Blk.below hK104 H33
                                          have hK109 := Blk.below hK105 H33
                                          have hK110 := Blk.below hK106 H33
                                          have hK111 := Blk.below hK107 H33
                                          have hR43 := hR41.mono (kept_below H33 (by omega))
                                          have hR44 := hR42.mono (kept_below H33 (by omega))
                                          have hz33 := H33.size
                                          refine ⟨hS24, ?_⟩
                                          refine RH.take 32 rfl (by kernel_rfl) rfl rfl rfl hS24 (fun W91 hW91 => Yl.mul (m := worthM d) (n := totG c) rfl rfl rfl (by omega)) ?_
                                          refine RH.take 33 rfl (by kernel_rfl) rfl rfl rfl hS24 (fun W92 hW92 => Yl.geq rfl rfl rfl) ?_
                                          refine RH.take 34 rfl (by kernel_rfl) rfl rfl rfl hS24 (fun W93 hW93 => Yl.pickT rfl rfl rfl) ?_
                                          refine RH.take 35 rfl (by kernel_rfl) rfl rfl rfl hS24 (fun W94 hW94 => Yl.pickF rfl rfl rfl) ?_
                                          refine RH.take 36 rfl (by kernel_rfl) rfl rfl rfl hS24 (fun W95 hW95 => Yl.assign rfl rfl) ?_
                                          refine RH.done (by kernel_rfl) ?_
                                          change CW _ _ _ _ _ _
                                          refine CW.ret ?_
                                          change FinQ _ _ _ _ _ _
                                          refine fin1 (.inr rfl) rfl rfl ?_
                                          exact ⟨_, rfl, bval (by first | rfl | exact decide_eq_true (by omega) | exact decide_eq_true (by assumption)), hB37⟩)
                                      ·
                                        have hq14 := of_decide_eq_false hg14
                                        first
                                        | (exfalso; omega)
                                        | (
                                          refine CW.draw 37 rfl (Kp []) (by kernel_rfl) ?_
                                          intro w38 H34
                                          have hB38 := Bl.step hB26 H34
                                          have hK112 := Blk.below hK64 H34
                                          have hK113 := Blk.below hK65 H34
                                          have hK114 := Blk.below hK66 H34
                                          have hK115 := Blk.below hK67 H34
                                          have hR45 := hR21.mono (kept_below H34 (by omega))
                                          have hR46 := hR22.mono (kept_below H34 (by omega))
                                          have hz34 := H34.size
                                          have hS25 := Kp.refl [] w38
                                          refine RH.take 0 rfl (by kernel_rfl) rfl rfl rfl hS25 (fun W96 hW96 => Yl.move rfl rfl) ?_
                                          refine RH.take 1 rfl (by kernel_rfl) rfl rfl rfl hS25 (fun W97 hW97 => Yl.eqb (Yl.neq rfl rfl rfl) (congrArg (fun b => !b) hg12)) ?_
                                          refine RH.take 2 rfl (by kernel_rfl) rfl rfl rfl hS25 (fun W98 hW98 => Yl.move rfl rfl) ?_
                                          refine RH.take 3 rfl (by kernel_rfl) rfl rfl rfl hS25 (fun W99 hW99 => Yl.loadAgg (cs := [.slice ps2 (((parR c d).1).length) cs2]) rfl rfl many24 (Blk.cells (Kp.blk hW99 hK115 (by simp)))) ?_
                                          refine RH.one 4 (by kernel_rfl) ?_
                                          refine RO.fn rfl rfl rfl rfl (Yc.func #[.agg #[.slice ps2 (((parR c d).1).length) cs2]] rfl ok15 (args1 rfl)) (c15 (hR46.wide (Nat.zero_le _) (by omega))) ?_
                                          rintro _ w39 ⟨rfl, H35⟩
                                          have hS26 := Kp.step hS25 H35
                                          have hB39 := Bl.step hB38 H35
                                          have hK116 := Blk.below hK112 H35
                                          have hK117 := Blk.below hK113 H35
                                          have hK118 := Blk.below hK114 H35
                                          have hK119 := Blk.below hK115 H35
                                          have hR47 := hR45.mono (kept_below H35 (by omega))
                                          have hR48 := hR46.mono (kept_below H35 (by omega))
                                          have hz35 := H35.size
                                          rw [hv_q]
                                          refine ⟨hS26, ?_⟩
                                          refine RH.take 5 rfl (by kernel_rfl) rfl rfl rfl hS26 (fun W101 hW101 => Yl.move rfl rfl) ?_
                                          refine RH.take 6 rfl (by kernel_rfl) rfl rfl rfl hS26 (fun W102 hW102 => Yl.loadAgg (cs := [.slice ps2 (((parR c d).1).length) cs2]) rfl rfl many24 (Blk.cells (Kp.blk hW102 hK115 (by simp)))) ?_
                                          refine RH.take 8 rfl (by kernel_rfl) rfl rfl rfl hS26 (fun W104 hW104 => Yl.loadAgg (cs := [.slice p c.length cc]) rfl rfl many24 (Blk.cells (Kp.blk hW104 hK112 (by simp)))) ?_
                                          refine RH.take 10 rfl (by kernel_rfl) rfl rfl rfl hS26 (fun W106 hW106 => Yl.loadAgg (cs := [.slice p2 d.length cd]) rfl rfl many24 (Blk.cells (Kp.blk hW106 hK113 (by simp)))) ?_
                                          refine RH.one 7 (by kernel_rfl) ?_
                                          refine RO.fn rfl rfl rfl rfl (Yc.func #[.agg #[.slice ps2 (((parR c d).1).length) cs2]] rfl ok24 (args1 rfl)) (c24 (hR48.wide (Nat.zero_le _) (by omega)) (validB_chanT hv_q)) ?_
                                          rintro _ w40 ⟨rfl, H36⟩
                                          have hS27 := Kp.step hS26 H36
                                          have hB40 := Bl.step hB39 H36
                                          have hK120 := Blk.below hK116 H36
                                          have hK121 := Blk.below hK117 H36
                                          have hK122 := Blk.below hK118 H36
                                          have hK123 := Blk.below hK119 H36
                                          have hR49 := hR47.mono (kept_below H36 (by omega))
                                          have hR50 := hR48.mono (kept_below H36 (by omega))
                                          have hz36 := H36.size
                                          refine ⟨hS27, ?_⟩
                                          refine RH.one 9 (by kernel_rfl) ?_
                                          refine RO.fn rfl rfl rfl rfl (Yc.func #[.agg #[.slice p c.length cc]] rfl ok24 (args1 rfl)) (c24 ((hv.mono (kept_from hB0 hB40 (Nat.le_refl _))).wide (Nat.zero_le _) (by omega)) (validB_chanT hv_c)) ?_
                                          rintro _ w41 ⟨rfl, H37⟩
                                          have hS28 := Kp.step hS27 H37
                                          have hB41 := Bl.step hB40 H37
                                          have hK124 := Blk.below hK120 H37
                                          have hK125 := Blk.below hK121 H37
                                          have hK126 := Blk.below hK122 H37
                                          have hK127 := Blk.below hK123 H37
                                          have hR51 := hR49.mono (kept_below H37 (by omega))
                                          have hR52 := hR50.mono (kept_below H37 (by omega))
                                          have hz37 := H37.size
                                          refine ⟨hS28, ?_⟩
                                          refine RH.one 11 (by kernel_rfl) ?_
                                          refine RO.fn rfl rfl rfl rfl (Yc.func #[.agg #[.slice p2 d.length cd]] rfl ok24 (args1 rfl)) (c24 ((hu.mono (kept_from hB0 hB41 (Nat.le_refl _))).wide (Nat.zero_le _) (by omega)) (validB_chanT hv_d)) ?_
                                          rintro _ w42 ⟨rfl, H38⟩
                                          have hS29 := Kp.step hS28 H38
                                          have hB42 := Bl.step hB41 H38
                                          have hK128 := Blk.below hK124 H38
                                          have hK129 := Blk.below hK125 H38
                                          have hK130 := Blk.below hK126 H38
                                          have hK131 := Blk.below hK127 H38
                                          have hR53 := hR51.mono (kept_below H38 (by omega))
                                          have hR54 := hR52.mono (kept_below H38 (by omega))
                                          have hz38 := H38.size
                                          refine ⟨hS29, ?_⟩
                                          refine RH.take 12 rfl (by kernel_rfl) rfl rfl rfl hS29 (fun W110 hW110 => Yl.mul (m := worthM c) (n := worthM d) rfl rfl rfl (by omega)) ?_
                                          refine RH.take 13 rfl (by kernel_rfl) rfl rfl rfl hS29 (fun W111 hW111 => Yl.eqb (Yl.leq rfl rfl rfl) hg13) ?_
                                          refine RH.take 14 rfl (by kernel_rfl) rfl rfl rfl hS29 (fun W112 hW112 => Yl.pickT rfl rfl rfl) ?_
                                          refine RH.take 15 rfl (by kernel_rfl) rfl rfl rfl hS29 (fun W113 hW113 => Yl.move rfl rfl) ?_
                                          refine RH.take 16 rfl (by kernel_rfl) rfl rfl rfl hS29 (fun W114 hW114 => Yl.loadAgg (cs := [.slice ps2 (((parR c d).1).length) cs2]) rfl rfl many24 (Blk.cells (Kp.blk hW114 hK115 (by simp)))) ?_
                                          refine RH.take 18 rfl (by kernel_rfl) rfl rfl rfl hS29 (fun W116 hW116 => Yl.loadAgg (cs := [.slice p c.length cc]) rfl rfl many24 (Blk.cells (Kp.blk hW116 hK112 (by simp)))) ?_
                                          refine RH.take 20 rfl (by kernel_rfl) rfl rfl rfl hS29 (fun W118 hW118 => Yl.loadAgg (cs := [.slice p2 d.length cd]) rfl rfl many24 (Blk.cells (Kp.blk hW118 hK113 (by simp)))) ?_
                                          refine RH.one 17 (by kernel_rfl) ?_
                                          refine RO.fn rfl rfl rfl rfl (Yc.func #[.agg #[.slice ps2 (((parR c d).1).length) cs2]] rfl ok24 (args1 rfl)) (c24 (hR54.wide (Nat.zero_le _) (by omega)) (validB_chanT hv_q)) ?_
                                          rintro _ w43 ⟨rfl, H39⟩
                                          have hS30 := Kp.step hS29 H39
                                          have hB43 := Bl.step hB42 H39
                                          have hK132 := Blk.below hK128 H39
                                          have hK133 := Blk.below hK129 H39
                                          have hK134 := Blk.below hK130 H39
                                          have hK135 := Blk.below hK131 H39
                                          have hR55 := hR53.mono (kept_below H39 (by omega))
                                          have hR56 := hR54.mono (kept_below H39 (by omega))
                                          have hz39 := H39.size
                                          refine ⟨hS30, ?_⟩
                                          refine RH.one 19 (by kernel_rfl) ?_
                                          refine RO.fn rfl rfl rfl rfl (Yc.func #[.agg #[.slice p c.length cc]] rfl ok24 (args1 rfl)) (c24 ((hv.mono (kept_from hB0 hB43 (Nat.le_refl _))).wide (Nat.zero_le _) (by omega)) (validB_chanT hv_c)) ?_
                                          rintro _ w44 ⟨rfl, H40⟩
                                          have hS31 := Kp.step hS30 H40
                                          have hB44 := Bl.step hB43 H40
                                          have hK136 := Blk.below hK132 H40
                                          have hK137 := Blk.below hK133 H40
                                          have hK138 := Blk.below hK134 H40
                                          have hK139 := Blk.below hK135 H40
                                          have hR57 := hR55.mono (kept_below H40 (by omega))
                                          have hR58 := hR56.mono (kept_below H40 (by omega))
                                          have hz40 := H40.size
                                          refine ⟨hS31, ?_⟩
                                          refine RH.one 21 (by kernel_rfl) ?_
                                          refine RO.fn rfl rfl rfl rfl (Yc.func #[.agg #[.slice p2 d.length cd]] rfl ok17 (args1 rfl)) (c17 ((hu.mono (kept_from hB0 hB44 (Nat.le_refl _))).wide (Nat.zero_le _) (by omega)) (validB_chanT hv_d)) ?_
                                          rintro _ w45 ⟨rfl, H41⟩
                                          have hS32 := Kp.step hS31 H41
                                          have hB45 := Bl.step hB44 H41
                                          have hK140 := Blk.below hK136 H41
                                          have hK141 := Blk.below hK137 H41
                                          have hK142 := Blk.below hK138 H41
                                          have hK143 := Blk.below hK139 H41
                                          have hR59 := hR57.mono (kept_below H41 (by omega))
                                          have hR60 := hR58.mono (kept_below H41 (by omega))
                                          have hz41 := H41.size
                                          refine ⟨hS32, ?_⟩
                                          refine RH.take 22 rfl (by kernel_rfl) rfl rfl rfl hS32 (fun W122 hW122 => Yl.mul (m := worthM c) (n := totG d) rfl rfl rfl (by omega)) ?_
                                          refine RH.take 23 rfl (by kernel_rfl) rfl rfl rfl hS32 (fun W123 hW123 => Yl.eqb (Yl.geq rfl rfl rfl) hg14) ?_
                                          refine RH.take 24 rfl (by kernel_rfl) rfl rfl rfl hS32 (fun W124 hW124 => Yl.pickT rfl rfl rfl) ?_
                                          refine RH.take 25 rfl (by kernel_rfl) rfl rfl rfl hS32 (fun W125 hW125 => Yl.move rfl rfl) ?_
                                          refine RH.pass 26 rfl (by kernel_rfl) rfl rfl rfl hS32 ?_
                                          refine RH.pass 27 rfl (by kernel_rfl) rfl rfl rfl hS32 ?_
                                          refine RH.pass 28 rfl (by kernel_rfl) rfl rfl rfl hS32 ?_
                                          refine RH.pass 29 rfl (by kernel_rfl) rfl rfl rfl hS32 ?_
                                          refine RH.pass 30 rfl (by kernel_rfl) rfl rfl rfl hS32 ?_
                                          refine RH.pass 31 rfl (by kernel_rfl) rfl rfl rfl hS32 ?_
                                          refine RH.pass 32 rfl (by kernel_rfl) rfl rfl rfl hS32 ?_
                                          refine RH.pass 33 rfl (by kernel_rfl) rfl rfl rfl hS32 ?_
                                          refine RH.take 34 rfl (by kernel_rfl) rfl rfl rfl hS32 (fun W126 hW126 => Yl.pickF rfl rfl rfl) ?_
                                          refine RH.take 35 rfl (by kernel_rfl) rfl rfl rfl hS32 (fun W127 hW127 => Yl.pickF rfl rfl rfl) ?_
                                          refine RH.take 36 rfl (by kernel_rfl) rfl rfl rfl hS32 (fun W128 hW128 => Yl.assign rfl rfl) ?_
                                          refine RH.done (by kernel_rfl) ?_
                                          change CW _ _ _ _ _ _
                                          refine CW.ret ?_
                                          change FinQ _ _ _ _ _ _
                                          refine fin1 (.inr rfl) rfl rfl ?_
                                          exact ⟨_, rfl, bval (by first | rfl | exact decide_eq_true (by omega) | exact decide_eq_true (by assumption)), hB45⟩))
                                  ·
                                    have hq13 := of_decide_eq_false hg13
                                    first
                                    | (exfalso; omega)
                                    | (
                                      refine CW.draw 37 rfl (Kp []) (by kernel_rfl) ?_
                                      intro w46 H42
                                      have hB46 := Bl.step hB26 H42
                                      have hK144 := Blk.below hK64 H42
                                      have hK145 := Blk.below hK65 H42
                                      have hK146 := Blk.below hK66 H42
                                      have hK147 := Blk.below hK67 H42
                                      have hR61 := hR21.mono (kept_below H42 (by omega))
                                      have hR62 := hR22.mono (kept_below H42 (by omega))
                                      have hz42 := H42.size
                                      have hS33 := Kp.refl [] w46
                                      refine RH.take 0 rfl (by kernel_rfl) rfl rfl rfl hS33 (fun W129 hW129 => Yl.move rfl rfl) ?_
                                      refine RH.take 1 rfl (by kernel_rfl) rfl rfl rfl hS33 (fun W130 hW130 => Yl.eqb (Yl.neq rfl rfl rfl) (congrArg (fun b => !b) hg12)) ?_
                                      refine RH.take 2 rfl (by kernel_rfl) rfl rfl rfl hS33 (fun W131 hW131 => Yl.move rfl rfl) ?_
                                      refine RH.take 3 rfl (by kernel_rfl) rfl rfl rfl hS33 (fun W132 hW132 => Yl.loadAgg (cs := [.slice ps2 (((parR c d).1).length) cs2]) rfl rfl many24 (Blk.cells (Kp.blk hW132 hK147 (by simp)))) ?_
                                      refine RH.one 4 (by kernel_rfl) ?_
                                      refine RO.fn rfl rfl rfl rfl (Yc.func #[.agg #[.slice ps2 (((parR c d).1).length) cs2]] rfl ok15 (args1 rfl)) (c15 (hR62.wide (Nat.zero_le _) (by omega))) ?_
                                      rintro _ w47 ⟨rfl, H43⟩
                                      have hS34 := Kp.step hS33 H43
                                      have hB47 := Bl.step hB46 H43
                                      have hK148 := Blk.below hK144 H43
                                      have hK149 := Blk.below hK145 H43
                                      have hK150 := Blk.below hK146 H43
                                      have hK151 := Blk.below hK147 H43
                                      have hR63 := hR61.mono (kept_below H43 (by omega))
                                      have hR64 := hR62.mono (kept_below H43 (by omega))
                                      have hz43 := H43.size
                                      rw [hv_q]
                                      refine ⟨hS34, ?_⟩
                                      refine RH.take 5 rfl (by kernel_rfl) rfl rfl rfl hS34 (fun W134 hW134 => Yl.move rfl rfl) ?_
                                      refine RH.take 6 rfl (by kernel_rfl) rfl rfl rfl hS34 (fun W135 hW135 => Yl.loadAgg (cs := [.slice ps2 (((parR c d).1).length) cs2]) rfl rfl many24 (Blk.cells (Kp.blk hW135 hK147 (by simp)))) ?_
                                      refine RH.take 8 rfl (by kernel_rfl) rfl rfl rfl hS34 (fun W137 hW137 => Yl.loadAgg (cs := [.slice p c.length cc]) rfl rfl many24 (Blk.cells (Kp.blk hW137 hK144 (by simp)))) ?_
                                      refine RH.take 10 rfl (by kernel_rfl) rfl rfl rfl hS34 (fun W139 hW139 => Yl.loadAgg (cs := [.slice p2 d.length cd]) rfl rfl many24 (Blk.cells (Kp.blk hW139 hK145 (by simp)))) ?_
                                      refine RH.one 7 (by kernel_rfl) ?_
                                      refine RO.fn rfl rfl rfl rfl (Yc.func #[.agg #[.slice ps2 (((parR c d).1).length) cs2]] rfl ok24 (args1 rfl)) (c24 (hR64.wide (Nat.zero_le _) (by omega)) (validB_chanT hv_q)) ?_
                                      rintro _ w48 ⟨rfl, H44⟩
                                      have hS35 := Kp.step hS34 H44
                                      have hB48 := Bl.step hB47 H44
                                      have hK152 := Blk.below hK148 H44
                                      have hK153 := Blk.below hK149 H44
                                      have hK154 := Blk.below hK150 H44
                                      have hK155 := Blk.below hK151 H44
                                      have hR65 := hR63.mono (kept_below H44 (by omega))
                                      have hR66 := hR64.mono (kept_below H44 (by omega))
                                      have hz44 := H44.size
                                      refine ⟨hS35, ?_⟩
                                      refine RH.one 9 (by kernel_rfl) ?_
                                      refine RO.fn rfl rfl rfl rfl (Yc.func #[.agg #[.slice p c.length cc]] rfl ok24 (args1 rfl)) (c24 ((hv.mono (kept_from hB0 hB48 (Nat.le_refl _))).wide (Nat.zero_le _) (by omega)) (validB_chanT hv_c)) ?_
                                      rintro _ w49 ⟨rfl, H45⟩
                                      have hS36 := Kp.step hS35 H45
                                      have hB49 := Bl.step hB48 H45
                                      have hK156 := Blk.below hK152 H45
                                      have hK157 := Blk.below hK153 H45
                                      have hK158 := Blk.below hK154 H45
                                      have hK159 := Blk.below hK155 H45
                                      have hR67 := hR65.mono (kept_below H45 (by omega))
                                      have hR68 := hR66.mono (kept_below H45 (by omega))
                                      have hz45 := H45.size
                                      refine ⟨hS36, ?_⟩
                                      refine RH.one 11 (by kernel_rfl) ?_
                                      refine RO.fn rfl rfl rfl rfl (Yc.func #[.agg #[.slice p2 d.length cd]] rfl ok24 (args1 rfl)) (c24 ((hu.mono (kept_from hB0 hB49 (Nat.le_refl _))).wide (Nat.zero_le _) (by omega)) (validB_chanT hv_d)) ?_
                                      rintro _ w50 ⟨rfl, H46⟩
                                      have hS37 := Kp.step hS36 H46
                                      have hB50 := Bl.step hB49 H46
                                      have hK160 := Blk.below hK156 H46
                                      have hK161 := Blk.below hK157 H46
                                      have hK162 := Blk.below hK158 H46
                                      have hK163 := Blk.below hK159 H46
                                      have hR69 := hR67.mono (kept_below H46 (by omega))
                                      have hR70 := hR68.mono (kept_below H46 (by omega))
                                      have hz46 := H46.size
                                      refine ⟨hS37, ?_⟩
                                      refine RH.take 12 rfl (by kernel_rfl) rfl rfl rfl hS37 (fun W143 hW143 => Yl.mul (m := worthM c) (n := worthM d) rfl rfl rfl (by omega)) ?_
                                      refine RH.take 13 rfl (by kernel_rfl) rfl rfl rfl hS37 (fun W144 hW144 => Yl.eqb (Yl.leq rfl rfl rfl) hg13) ?_
                                      refine RH.take 14 rfl (by kernel_rfl) rfl rfl rfl hS37 (fun W145 hW145 => Yl.pickT rfl rfl rfl) ?_
                                      refine RH.take 15 rfl (by kernel_rfl) rfl rfl rfl hS37 (fun W146 hW146 => Yl.move rfl rfl) ?_
                                      refine RH.pass 16 rfl (by kernel_rfl) rfl rfl rfl hS37 ?_
                                      refine RH.pass 17 rfl (by kernel_rfl) rfl rfl rfl hS37 ?_
                                      refine RH.pass 18 rfl (by kernel_rfl) rfl rfl rfl hS37 ?_
                                      refine RH.pass 19 rfl (by kernel_rfl) rfl rfl rfl hS37 ?_
                                      refine RH.pass 20 rfl (by kernel_rfl) rfl rfl rfl hS37 ?_
                                      refine RH.pass 21 rfl (by kernel_rfl) rfl rfl rfl hS37 ?_
                                      refine RH.pass 22 rfl (by kernel_rfl) rfl rfl rfl hS37 ?_
                                      refine RH.pass 23 rfl (by kernel_rfl) rfl rfl rfl hS37 ?_
                                      refine RH.take 24 rfl (by kernel_rfl) rfl rfl rfl hS37 (fun W147 hW147 => Yl.pickF rfl rfl rfl) ?_
                                      refine RH.take 25 rfl (by kernel_rfl) rfl rfl rfl hS37 (fun W148 hW148 => Yl.move rfl rfl) ?_
                                      refine RH.pass 26 rfl (by kernel_rfl) rfl rfl rfl hS37 ?_
                                      refine RH.pass 27 rfl (by kernel_rfl) rfl rfl rfl hS37 ?_
                                      refine RH.pass 28 rfl (by kernel_rfl) rfl rfl rfl hS37 ?_
                                      refine RH.pass 29 rfl (by kernel_rfl) rfl rfl rfl hS37 ?_
                                      refine RH.pass 30 rfl (by kernel_rfl) rfl rfl rfl hS37 ?_
                                      refine RH.pass 31 rfl (by kernel_rfl) rfl rfl rfl hS37 ?_
                                      refine RH.pass 32 rfl (by kernel_rfl) rfl rfl rfl hS37 ?_
                                      refine RH.pass 33 rfl (by kernel_rfl) rfl rfl rfl hS37 ?_
                                      refine RH.take 34 rfl (by kernel_rfl) rfl rfl rfl hS37 (fun W149 hW149 => Yl.pickF rfl rfl rfl) ?_
                                      refine RH.take 35 rfl (by kernel_rfl) rfl rfl rfl hS37 (fun W150 hW150 => Yl.pickF rfl rfl rfl) ?_
                                      refine RH.take 36 rfl (by kernel_rfl) rfl rfl rfl hS37 (fun W151 hW151 => Yl.assign rfl rfl) ?_
                                      refine RH.done (by kernel_rfl) ?_
                                      change CW _ _ _ _ _ _
                                      refine CW.ret ?_
                                      change FinQ _ _ _ _ _ _
                                      refine fin1 (.inr rfl) rfl rfl ?_
                                      exact ⟨_, rfl, bval (by first | rfl | exact decide_eq_true (by omega) | exact decide_eq_true (by assumption)), hB50⟩))
                              ·
                                have hq12 := of_decide_eq_false hg12
                                first
                                | (exfalso; omega)
                                | (
                                  refine CW.draw 37 rfl (Kp []) (by kernel_rfl) ?_
                                  intro w51 H47
                                  have hB51 := Bl.step hB26 H47
                                  have hK164 := Blk.below hK64 H47
                                  have hK165 := Blk.below hK65 H47
                                  have hK166 := Blk.below hK66 H47
                                  have hK167 := Blk.below hK67 H47
                                  have hR71 := hR21.mono (kept_below H47 (by omega))
                                  have hR72 := hR22.mono (kept_below H47 (by omega))
                                  have hz47 := H47.size
                                  have hS38 := Kp.refl [] w51
                                  refine RH.take 0 rfl (by kernel_rfl) rfl rfl rfl hS38 (fun W152 hW152 => Yl.move rfl rfl) ?_
                                  refine RH.take 1 rfl (by kernel_rfl) rfl rfl rfl hS38 (fun W153 hW153 => Yl.eqb (Yl.neq rfl rfl rfl) (congrArg (fun b => !b) hg12)) ?_
                                  refine RH.take 2 rfl (by kernel_rfl) rfl rfl rfl hS38 (fun W154 hW154 => Yl.move rfl rfl) ?_
                                  refine RH.pass 3 rfl (by kernel_rfl) rfl rfl rfl hS38 ?_
                                  refine RH.pass 4 rfl (by kernel_rfl) rfl rfl rfl hS38 ?_
                                  refine RH.pass 5 rfl (by kernel_rfl) rfl rfl rfl hS38 ?_
                                  refine RH.pass 6 rfl (by kernel_rfl) rfl rfl rfl hS38 ?_
                                  refine RH.pass 7 rfl (by kernel_rfl) rfl rfl rfl hS38 ?_
                                  refine RH.pass 8 rfl (by kernel_rfl) rfl rfl rfl hS38 ?_
                                  refine RH.pass 9 rfl (by kernel_rfl) rfl rfl rfl hS38 ?_
                                  refine RH.pass 10 rfl (by kernel_rfl) rfl rfl rfl hS38 ?_
                                  refine RH.pass 11 rfl (by kernel_rfl) rfl rfl rfl hS38 ?_
                                  refine RH.pass 12 rfl (by kernel_rfl) rfl rfl rfl hS38 ?_
                                  refine RH.pass 13 rfl (by kernel_rfl) rfl rfl rfl hS38 ?_
                                  refine RH.pass 14 rfl (by kernel_rfl) rfl rfl rfl hS38 ?_
                                  refine RH.pass 15 rfl (by kernel_rfl) rfl rfl rfl hS38 ?_
                                  refine RH.pass 16 rfl (by kernel_rfl) rfl rfl rfl hS38 ?_
                                  refine RH.pass 17 rfl (by kernel_rfl) rfl rfl rfl hS38 ?_
                                  refine RH.pass 18 rfl (by kernel_rfl) rfl rfl rfl hS38 ?_
                                  refine RH.pass 19 rfl (by kernel_rfl) rfl rfl rfl hS38 ?_
                                  refine RH.pass 20 rfl (by kernel_rfl) rfl rfl rfl hS38 ?_
                                  refine RH.pass 21 rfl (by kernel_rfl) rfl rfl rfl hS38 ?_
                                  refine RH.pass 22 rfl (by kernel_rfl) rfl rfl rfl hS38 ?_
                                  refine RH.pass 23 rfl (by kernel_rfl) rfl rfl rfl hS38 ?_
                                  refine RH.pass 24 rfl (by kernel_rfl) rfl rfl rfl hS38 ?_
                                  refine RH.pass 25 rfl (by kernel_rfl) rfl rfl rfl hS38 ?_
                                  refine RH.pass 26 rfl (by kernel_rfl) rfl rfl rfl hS38 ?_
                                  refine RH.pass 27 rfl (by kernel_rfl) rfl rfl rfl hS38 ?_
                                  refine RH.pass 28 rfl (by kernel_rfl) rfl rfl rfl hS38 ?_
                                  refine RH.pass 29 rfl (by kernel_rfl) rfl rfl rfl hS38 ?_
                                  refine RH.pass 30 rfl (by kernel_rfl) rfl rfl rfl hS38 ?_
                                  refine RH.pass 31 rfl (by kernel_rfl) rfl rfl rfl hS38 ?_
                                  refine RH.pass 32 rfl (by kernel_rfl) rfl rfl rfl hS38 ?_
                                  refine RH.pass 33 rfl (by kernel_rfl) rfl rfl rfl hS38 ?_
                                  refine RH.pass 34 rfl (by kernel_rfl) rfl rfl rfl hS38 ?_
                                  refine RH.take 35 rfl (by kernel_rfl) rfl rfl rfl hS38 (fun W155 hW155 => Yl.pickT rfl rfl rfl) ?_
                                  refine RH.take 36 rfl (by kernel_rfl) rfl rfl rfl hS38 (fun W156 hW156 => Yl.assign rfl rfl) ?_
                                  refine RH.done (by kernel_rfl) ?_
                                  change CW _ _ _ _ _ _
                                  refine CW.ret ?_
                                  change FinQ _ _ _ _ _ _
                                  refine fin1 (.inr rfl) rfl rfl ?_
                                  exact ⟨_, rfl, bval (by first | rfl | exact decide_eq_true (by omega) | exact decide_eq_true (by assumption)), hB51⟩))))
                  ·
                    have hq6 := of_decide_eq_false hg8
                    first
                    | (exfalso; omega)
                    | (
                      refine CW.draw 27 rfl (Kp []) (by kernel_rfl) ?_
                      intro w52 H48
                      have hB52 := Bl.step hB10 H48
                      have hK168 := Blk.below hK16 H48
                      have hK169 := Blk.below hK17 H48
                      have hK170 := Blk.below hK18 H48
                      have hR73 := hR3.mono (kept_below H48 (by omega))
                      have hz48 := H48.size
                      have hS39 := Kp.refl [] w52
                      refine RH.take 0 rfl (by kernel_rfl) rfl rfl rfl hS39 (fun W157 hW157 => Yl.move rfl rfl) ?_
                      refine RH.take 1 rfl (by kernel_rfl) rfl rfl rfl hS39 (fun W158 hW158 => Yl.eqb (Yl.eql rfl rfl rfl) hg8) ?_
                      refine RH.take 2 rfl (by kernel_rfl) rfl rfl rfl hS39 (fun W159 hW159 => Yl.move rfl rfl) ?_
                      refine RH.pass 3 rfl (by kernel_rfl) rfl rfl rfl hS39 ?_
                      refine RH.pass 4 rfl (by kernel_rfl) rfl rfl rfl hS39 ?_
                      refine RH.pass 5 rfl (by kernel_rfl) rfl rfl rfl hS39 ?_
                      refine RH.pass 6 rfl (by kernel_rfl) rfl rfl rfl hS39 ?_
                      refine RH.pass 7 rfl (by kernel_rfl) rfl rfl rfl hS39 ?_
                      refine RH.pass 8 rfl (by kernel_rfl) rfl rfl rfl hS39 ?_
                      refine RH.pass 9 rfl (by kernel_rfl) rfl rfl rfl hS39 ?_
                      refine RH.pass 10 rfl (by kernel_rfl) rfl rfl rfl hS39 ?_
                      refine RH.pass 11 rfl (by kernel_rfl) rfl rfl rfl hS39 ?_
                      refine RH.pass 12 rfl (by kernel_rfl) rfl rfl rfl hS39 ?_
                      refine RH.pass 13 rfl (by kernel_rfl) rfl rfl rfl hS39 ?_
                      refine RH.pass 14 rfl (by kernel_rfl) rfl rfl rfl hS39 ?_
                      refine RH.pass 15 rfl (by kernel_rfl) rfl rfl rfl hS39 ?_
                      refine RH.pass 16 rfl (by kernel_rfl) rfl rfl rfl hS39 ?_
                      refine RH.pass 17 rfl (by kernel_rfl) rfl rfl rfl hS39 ?_
                      refine RH.pass 18 rfl (by kernel_rfl) rfl rfl rfl hS39 ?_
                      refine RH.pass 19 rfl (by kernel_rfl) rfl rfl rfl hS39 ?_
                      refine RH.pass 20 rfl (by kernel_rfl) rfl rfl rfl hS39 ?_
                      refine RH.pass 21 rfl (by kernel_rfl) rfl rfl rfl hS39 ?_
                      refine RH.pass 22 rfl (by kernel_rfl) rfl rfl rfl hS39 ?_
                      refine RH.pass 23 rfl (by kernel_rfl) rfl rfl rfl hS39 ?_
                      refine RH.pass 24 rfl (by kernel_rfl) rfl rfl rfl hS39 ?_
                      refine RH.pass 25 rfl (by kernel_rfl) rfl rfl rfl hS39 ?_
                      refine RH.take 26 rfl (by kernel_rfl) rfl rfl rfl hS39 (fun W160 hW160 => Yl.pickF rfl rfl rfl) ?_
                      refine RH.done (by kernel_rfl) ?_
                      change CW _ _ _ _ _ _
                      refine CW.condF rfl ?_
                      refine CW.skip ?_
                      change CW _ _ _ _ _ _
                      refine CW.seq ?_
                      refine CW.region ?_
                      refine RW.yl rfl rfl rfl (Yl.loadAgg (cs := [.slice p c.length cc]) rfl rfl many24 (Blk.cells hK168)) ?_
                      refine RW.yl rfl rfl rfl (Yl.loadAgg (cs := [.slice p2 d.length cd]) rfl rfl many24 (Blk.cells hK169)) ?_
                      refine RW.fn rfl rfl rfl (Yc.func #[.agg #[.slice p c.length cc], .agg #[.slice p2 d.length cd]] rfl ok21 (args2 rfl rfl)) (c21 ((hv.mono (kept_from hB0 hB52 (Nat.le_refl _))).wide (Nat.zero_le _) (by omega)) ((hu.mono (kept_from hB0 hB52 (Nat.le_refl _))).wide (Nat.zero_le _) (by omega))) ?_
                      rintro _ w53 ⟨s3, rfl, hR74, H49⟩
                      obtain ⟨ps3, cs3, rfl, hl3⟩ := hR74.form
                      have hB53 := Bl.step hB52 H49
                      have hK171 := Blk.below hK168 H49
                      have hK172 := Blk.below hK169 H49
                      have hK173 := Blk.below hK170 H49
                      have hR75 := hR73.mono (kept_below H49 (by omega))
                      have hz49 := H49.size
                      refine RW.yl rfl rfl rfl (Yl.move rfl rfl) ?_
                      refine RW.yl rfl rfl rfl (Yl.extract rfl rfl rfl) ?_
                      refine RW.yl rfl rfl rfl (Yl.extract rfl rfl rfl) ?_
                      refine RW.newP (cs := #[.slice none 0 0]) (T := 24) rfl rfl rfl (Yv.alloc (z := .agg #[.slice none 0 0]) rfl zero24) ?_
                      intro b5 w54 N5
                      have ne7 := New.ne N5 hK171
                      have ne8 := New.ne N5 hK172
                      have ne9 := New.ne N5 hK173
                      have lo_b5 : w.heap.size ≤ b5 := by have := hB53.size; have := N5.num; omega
                      have hn_b5 := N5.num
                      have hs_b5 := N5.size
                      have hB54 := Bl.step hB53 N5.below
                      have hK174 := Blk.below hK171 N5.below
                      have hK175 := Blk.below hK172 N5.below
                      have hK176 := Blk.below hK173 N5.below
                      have hR76 := hR75.mono (kept_below N5.below (by omega))
                      have hR77 := hR74.mono (kept_below N5.below (by omega))
                      refine RW.stoAll (cs' := #[.slice ps3 (((parR c d).1).length) cs3]) rfl rfl N5.blk (Yu.storeAll rfl rfl rfl sz24 N5.blk rfl (by simp [Value.oneCell'])) ?_
                      intro w55 H50
                      have hB55 := Bl.sto hB54 H50 lo_b5
                      have hK177 := Blk.sto hK174 H50 ne7
                      have hK178 := Blk.sto hK175 H50 ne8
                      have hK179 := Blk.sto hK176 H50 ne9
                      have hK180 := H50.blk
                      have hR78 := hR76.mono (kept_sto H50 (by omega) (by omega))
                      have hR79 := hR77.mono (kept_sto H50 (by omega) (by omega))
                      have hz50 := H50.size
                      refine RW.yl rfl rfl rfl (Yl.assign rfl rfl) ?_
                      refine RW.nil ?_
                      change CW _ _ _ _ _ _
                      refine CW.seq ?_
                      rcases Bool.eq_false_or_eq_true (decide (((parR c d).2) = 0)) with hg15 | hg15
                      ·
                        have hq15 := of_decide_eq_true hg15
                        obtain ⟨hv_q, hq1, hq2, hq3⟩ := parR_facts hv_c hv_d (of_decide_eq_true hg15)
                        first
                        | (exfalso; omega)
                        | (
                          rcases Bool.eq_false_or_eq_true (decide ((worthM ((parR c d).1)) ≤ ((worthM c) * (worthM d)))) with hg16 | hg16
                          ·
                            have hq16 := of_decide_eq_true hg16
                            first
                            | (exfalso; omega)
                            | (
                              rcases Bool.eq_false_or_eq_true (decide (((worthM c) * (totG d)) ≤ (worthM ((parR c d).1)))) with hg17 | hg17
                              ·
                                have hq17 := of_decide_eq_true hg17
                                first
                                | (exfalso; omega)
                                | (
                                  refine CW.draw 37 rfl (Kp []) (by kernel_rfl) ?_
                                  intro w56 H51
                                  have hB56 := Bl.step hB55 H51
                                  have hK181 := Blk.below hK177 H51
                                  have hK182 := Blk.below hK178 H51
                                  have hK183 := Blk.below hK179 H51
                                  have hK184 := Blk.below hK180 H51
                                  have hR80 := hR78.mono (kept_below H51 (by omega))
                                  have hR81 := hR79.mono (kept_below H51 (by omega))
                                  have hz51 := H51.size
                                  have hS40 := Kp.refl [] w56
                                  refine RH.take 0 rfl (by kernel_rfl) rfl rfl rfl hS40 (fun W161 hW161 => Yl.move rfl rfl) ?_
                                  refine RH.take 1 rfl (by kernel_rfl) rfl rfl rfl hS40 (fun W162 hW162 => Yl.eqb (Yl.neq rfl rfl rfl) (congrArg (fun b => !b) hg15)) ?_
                                  refine RH.take 2 rfl (by kernel_rfl) rfl rfl rfl hS40 (fun W163 hW163 => Yl.move rfl rfl) ?_
                                  refine RH.take 3 rfl (by kernel_rfl) rfl rfl rfl hS40 (fun W164 hW164 => Yl.loadAgg (cs := [.slice ps3 (((parR c d).1).length) cs3]) rfl rfl many24 (Blk.cells (Kp.blk hW164 hK184 (by simp)))) ?_
                                  refine RH.one 4 (by kernel_rfl) ?_
                                  refine RO.fn rfl rfl rfl rfl (Yc.func #[.agg #[.slice ps3 (((parR c d).1).length) cs3]] rfl ok15 (args1 rfl)) (c15 (hR81.wide (Nat.zero_le _) (by omega))) ?_
                                  rintro _ w57 ⟨rfl, H52⟩
                                  have hS41 := Kp.step hS40 H52
                                  have hB57 := Bl.step hB56 H52
                                  have hK185 := Blk.below hK181 H52
                                  have hK186 := Blk.below hK182 H52
                                  have hK187 := Blk.below hK183 H52
                                  have hK188 := Blk.below hK184 H52
                                  have hR82 := hR80.mono (kept_below H52 (by omega))
                                  have hR83 := hR81.mono (kept_below H52 (by omega))
                                  have hz52 := H52.size
                                  rw [hv_q]
                                  refine ⟨hS41, ?_⟩
                                  refine RH.take 5 rfl (by kernel_rfl) rfl rfl rfl hS41 (fun W166 hW166 => Yl.move rfl rfl) ?_
                                  refine RH.take 6 rfl (by kernel_rfl) rfl rfl rfl hS41 (fun W167 hW167 => Yl.loadAgg (cs := [.slice ps3 (((parR c d).1).length) cs3]) rfl rfl many24 (Blk.cells (Kp.blk hW167 hK184 (by simp)))) ?_
                                  refine RH.take 8 rfl (by kernel_rfl) rfl rfl rfl hS41 (fun W169 hW169 => Yl.loadAgg (cs := [.slice p c.length cc]) rfl rfl many24 (Blk.cells (Kp.blk hW169 hK181 (by simp)))) ?_
                                  refine RH.take 10 rfl (by kernel_rfl) rfl rfl rfl hS41 (fun W171 hW171 => Yl.loadAgg (cs := [.slice p2 d.length cd]) rfl rfl many24 (Blk.cells (Kp.blk hW171 hK182 (by simp)))) ?_
                                  refine RH.one 7 (by kernel_rfl) ?_
                                  refine RO.fn rfl rfl rfl rfl (Yc.func #[.agg #[.slice ps3 (((parR c d).1).length) cs3]] rfl ok24 (args1 rfl)) (c24 (hR83.wide (Nat.zero_le _) (by omega)) (validB_chanT hv_q)) ?_
                                  rintro _ w58 ⟨rfl, H53⟩
                                  have hS42 := Kp.step hS41 H53
                                  have hB58 := Bl.step hB57 H53
                                  have hK189 := Blk.below hK185 H53
                                  have hK190 := Blk.below hK186 H53
                                  have hK191 := Blk.below hK187 H53
                                  have hK192 := Blk.below hK188 H53
                                  have hR84 := hR82.mono (kept_below H53 (by omega))
                                  have hR85 := hR83.mono (kept_below H53 (by omega))
                                  have hz53 := H53.size
                                  refine ⟨hS42, ?_⟩
                                  refine RH.one 9 (by kernel_rfl) ?_
                                  refine RO.fn rfl rfl rfl rfl (Yc.func #[.agg #[.slice p c.length cc]] rfl ok24 (args1 rfl)) (c24 ((hv.mono (kept_from hB0 hB58 (Nat.le_refl _))).wide (Nat.zero_le _) (by omega)) (validB_chanT hv_c)) ?_
                                  rintro _ w59 ⟨rfl, H54⟩
                                  have hS43 := Kp.step hS42 H54
                                  have hB59 := Bl.step hB58 H54
                                  have hK193 := Blk.below hK189 H54
                                  have hK194 := Blk.below hK190 H54
                                  have hK195 := Blk.below hK191 H54
                                  have hK196 := Blk.below hK192 H54
                                  have hR86 := hR84.mono (kept_below H54 (by omega))
                                  have hR87 := hR85.mono (kept_below H54 (by omega))
                                  have hz54 := H54.size
                                  refine ⟨hS43, ?_⟩
                                  refine RH.one 11 (by kernel_rfl) ?_
                                  refine RO.fn rfl rfl rfl rfl (Yc.func #[.agg #[.slice p2 d.length cd]] rfl ok24 (args1 rfl)) (c24 ((hu.mono (kept_from hB0 hB59 (Nat.le_refl _))).wide (Nat.zero_le _) (by omega)) (validB_chanT hv_d)) ?_
                                  rintro _ w60 ⟨rfl, H55⟩
                                  have hS44 := Kp.step hS43 H55
                                  have hB60 := Bl.step hB59 H55
                                  have hK197 := Blk.below hK193 H55
                                  have hK198 := Blk.below hK194 H55
                                  have hK199 := Blk.below hK195 H55
                                  have hK200 := Blk.below hK196 H55
                                  have hR88 := hR86.mono (kept_below H55 (by omega))
                                  have hR89 := hR87.mono (kept_below H55 (by omega))
                                  have hz55 := H55.size
                                  refine ⟨hS44, ?_⟩
                                  refine RH.take 12 rfl (by kernel_rfl) rfl rfl rfl hS44 (fun W175 hW175 => Yl.mul (m := worthM c) (n := worthM d) rfl rfl rfl (by omega)) ?_
                                  refine RH.take 13 rfl (by kernel_rfl) rfl rfl rfl hS44 (fun W176 hW176 => Yl.eqb (Yl.leq rfl rfl rfl) hg16) ?_
                                  refine RH.take 14 rfl (by kernel_rfl) rfl rfl rfl hS44 (fun W177 hW177 => Yl.pickT rfl rfl rfl) ?_
                                  refine RH.take 15 rfl (by kernel_rfl) rfl rfl rfl hS44 (fun W178 hW178 => Yl.move rfl rfl) ?_
                                  refine RH.take 16 rfl (by kernel_rfl) rfl rfl rfl hS44 (fun W179 hW179 => Yl.loadAgg (cs := [.slice ps3 (((parR c d).1).length) cs3]) rfl rfl many24 (Blk.cells (Kp.blk hW179 hK184 (by simp)))) ?_
                                  refine RH.take 18 rfl (by kernel_rfl) rfl rfl rfl hS44 (fun W181 hW181 => Yl.loadAgg (cs := [.slice p c.length cc]) rfl rfl many24 (Blk.cells (Kp.blk hW181 hK181 (by simp)))) ?_
                                  refine RH.take 20 rfl (by kernel_rfl) rfl rfl rfl hS44 (fun W183 hW183 => Yl.loadAgg (cs := [.slice p2 d.length cd]) rfl rfl many24 (Blk.cells (Kp.blk hW183 hK182 (by simp)))) ?_
                                  refine RH.one 17 (by kernel_rfl) ?_
                                  refine RO.fn rfl rfl rfl rfl (Yc.func #[.agg #[.slice ps3 (((parR c d).1).length) cs3]] rfl ok24 (args1 rfl)) (c24 (hR89.wide (Nat.zero_le _) (by omega)) (validB_chanT hv_q)) ?_
                                  rintro _ w61 ⟨rfl, H56⟩
                                  have hS45 := Kp.step hS44 H56
                                  have hB61 := Bl.step hB60 H56
                                  have hK201 := Blk.below hK197 H56
                                  have hK202 := Blk.below hK198 H56
                                  have hK203 := Blk.below hK199 H56
                                  have hK204 := Blk.below hK200 H56
                                  have hR90 := hR88.mono (kept_below H56 (by omega))
                                  have hR91 := hR89.mono (kept_below H56 (by omega))
                                  have hz56 := H56.size
                                  refine ⟨hS45, ?_⟩
                                  refine RH.one 19 (by kernel_rfl) ?_
                                  refine RO.fn rfl rfl rfl rfl (Yc.func #[.agg #[.slice p c.length cc]] rfl ok24 (args1 rfl)) (c24 ((hv.mono (kept_from hB0 hB61 (Nat.le_refl _))).wide (Nat.zero_le _) (by omega)) (validB_chanT hv_c)) ?_
                                  rintro _ w62 ⟨rfl, H57⟩
                                  have hS46 := Kp.step hS45 H57
                                  have hB62 := Bl.step hB61 H57
                                  have hK205 := Blk.below hK201 H57
                                  have hK206 := Blk.below hK202 H57
                                  have hK207 := Blk.below hK203 H57
                                  have hK208 := Blk.below hK204 H57
                                  have hR92 := hR90.mono (kept_below H57 (by omega))
                                  have hR93 := hR91.mono (kept_below H57 (by omega))
                                  have hz57 := H57.size
                                  refine ⟨hS46, ?_⟩
                                  refine RH.one 21 (by kernel_rfl) ?_
                                  refine RO.fn rfl rfl rfl rfl (Yc.func #[.agg #[.slice p2 d.length cd]] rfl ok17 (args1 rfl)) (c17 ((hu.mono (kept_from hB0 hB62 (Nat.le_refl _))).wide (Nat.zero_le _) (by omega)) (validB_chanT hv_d)) ?_
                                  rintro _ w63 ⟨rfl, H58⟩
                                  have hS47 := Kp.step hS46 H58
                                  have hB63 := Bl.step hB62 H58
                                  have hK209 := Blk.below hK205 H58
                                  have hK210 := Blk.below hK206 H58
                                  have hK211 := Blk.below hK207 H58
                                  have hK212 := Blk.below hK208 H58
                                  have hR94 := hR92.mono (kept_below H58 (by omega))
                                  have hR95 := hR93.mono (kept_below H58 (by omega))
                                  have hz58 := H58.size
                                  refine ⟨hS47, ?_⟩
                                  refine RH.take 22 rfl (by kernel_rfl) rfl rfl rfl hS47 (fun W187 hW187 => Yl.mul (m := worthM c) (n := totG d) rfl rfl rfl (by omega)) ?_
                                  refine RH.take 23 rfl (by kernel_rfl) rfl rfl rfl hS47 (fun W188 hW188 => Yl.eqb (Yl.geq rfl rfl rfl) hg17) ?_
                                  refine RH.take 24 rfl (by kernel_rfl) rfl rfl rfl hS47 (fun W189 hW189 => Yl.pickT rfl rfl rfl) ?_
                                  refine RH.take 25 rfl (by kernel_rfl) rfl rfl rfl hS47 (fun W190 hW190 => Yl.move rfl rfl) ?_
                                  refine RH.take 26 rfl (by kernel_rfl) rfl rfl rfl hS47 (fun W191 hW191 => Yl.loadAgg (cs := [.slice ps3 (((parR c d).1).length) cs3]) rfl rfl many24 (Blk.cells (Kp.blk hW191 hK184 (by simp)))) ?_
                                  refine RH.take 28 rfl (by kernel_rfl) rfl rfl rfl hS47 (fun W193 hW193 => Yl.loadAgg (cs := [.slice p2 d.length cd]) rfl rfl many24 (Blk.cells (Kp.blk hW193 hK182 (by simp)))) ?_
                                  refine RH.take 30 rfl (by kernel_rfl) rfl rfl rfl hS47 (fun W195 hW195 => Yl.loadAgg (cs := [.slice p c.length cc]) rfl rfl many24 (Blk.cells (Kp.blk hW195 hK181 (by simp)))) ?_
                                  refine RH.one 27 (by kernel_rfl) ?_
                                  refine RO.fn rfl rfl rfl rfl (Yc.func #[.agg #[.slice ps3 (((parR c d).1).length) cs3]] rfl ok24 (args1 rfl)) (c24 (hR95.wide (Nat.zero_le _) (by omega)) (validB_chanT hv_q)) ?_
                                  rintro _ w64 ⟨rfl, H59⟩
                                  have hS48 := Kp.step hS47 H59
                                  have hB64 := Bl.step hB63 H59
                                  have hK213 := Blk.below hK209 H59
                                  have hK214 := Blk.below hK210 H59
                                  have hK215 := Blk.below hK211 H59
                                  have hK216 := Blk.below hK212 H59
                                  have hR96 := hR94.mono (kept_below H59 (by omega))
                                  have hR97 := hR95.mono (kept_below H59 (by omega))
                                  have hz59 := H59.size
                                  refine ⟨hS48, ?_⟩
                                  refine RH.one 29 (by kernel_rfl) ?_
                                  refine RO.fn rfl rfl rfl rfl (Yc.func #[.agg #[.slice p2 d.length cd]] rfl ok24 (args1 rfl)) (c24 ((hu.mono (kept_from hB0 hB64 (Nat.le_refl _))).wide (Nat.zero_le _) (by omega)) (validB_chanT hv_d)) ?_
                                  rintro _ w65 ⟨rfl, H60⟩
                                  have hS49 := Kp.step hS48 H60
                                  have hB65 := Bl.step hB64 H60
                                  have hK217 := Blk.below hK213 H60
                                  have hK218 := Blk.below hK214 H60
                                  have hK219 := Blk.below hK215 H60
                                  have hK220 := Blk.below hK216 H60
                                  have hR98 := hR96.mono (kept_below H60 (by omega))
                                  have hR99 := hR97.mono (kept_below H60 (by omega))
                                  have hz60 := H60.size
                                  refine ⟨hS49, ?_⟩
                                  refine RH.one 31 (by kernel_rfl) ?_
                                  refine RO.fn rfl rfl rfl rfl (Yc.func #[.agg #[.slice p c.length cc]] rfl ok17 (args1 rfl)) (c17 ((hv.mono (kept_from hB0 hB65 (Nat.le_refl _))).wide (Nat.zero_le _) (by omega)) (validB_chanT hv_c)) ?_
                                  rintro _ w66 ⟨rfl, H61⟩
                                  have hS50 := Kp.step hS49 H61
                                  have hB66 := Bl.step hB65 H61
                                  have hK221 := Blk.below hK217 H61
                                  have hK222 := Blk.below hK218 H61
                                  have hK223 := Blk.below hK219 H61
                                  have hK224 := Blk.below hK220 H61
                                  have hR100 := hR98.mono (kept_below H61 (by omega))
                                  have hR101 := hR99.mono (kept_below H61 (by omega))
                                  have hz61 := H61.size
                                  refine ⟨hS50, ?_⟩
                                  refine RH.take 32 rfl (by kernel_rfl) rfl rfl rfl hS50 (fun W199 hW199 => Yl.mul (m := worthM d) (n := totG c) rfl rfl rfl (by omega)) ?_
                                  refine RH.take 33 rfl (by kernel_rfl) rfl rfl rfl hS50 (fun W200 hW200 => Yl.geq rfl rfl rfl) ?_
                                  refine RH.take 34 rfl (by kernel_rfl) rfl rfl rfl hS50 (fun W201 hW201 => Yl.pickT rfl rfl rfl) ?_
                                  refine RH.take 35 rfl (by kernel_rfl) rfl rfl rfl hS50 (fun W202 hW202 => Yl.pickF rfl rfl rfl) ?_
                                  refine RH.take 36 rfl (by kernel_rfl) rfl rfl rfl hS50 (fun W203 hW203 => Yl.assign rfl rfl) ?_
                                  refine RH.done (by kernel_rfl) ?_
                                  change CW _ _ _ _ _ _
                                  refine CW.ret ?_
                                  change FinQ _ _ _ _ _ _
                                  refine fin1 (.inr rfl) rfl rfl ?_
                                  exact ⟨_, rfl, bval (by first | rfl | exact decide_eq_true (by omega) | exact decide_eq_true (by assumption)), hB66⟩)
                              ·
                                have hq17 := of_decide_eq_false hg17
                                first
                                | (exfalso; omega)
                                | (
                                  refine CW.draw 37 rfl (Kp []) (by kernel_rfl) ?_
                                  intro w67 H62
                                  have hB67 := Bl.step hB55 H62
                                  have hK225 := Blk.below hK177 H62
                                  have hK226 := Blk.below hK178 H62
                                  have hK227 := Blk.below hK179 H62
                                  have hK228 := Blk.below hK180 H62
                                  have hR102 := hR78.mono (kept_below H62 (by omega))
                                  have hR103 := hR79.mono (kept_below H62 (by omega))
                                  have hz62 := H62.size
                                  have hS51 := Kp.refl [] w67
                                  refine RH.take 0 rfl (by kernel_rfl) rfl rfl rfl hS51 (fun W204 hW204 => Yl.move rfl rfl) ?_
                                  refine RH.take 1 rfl (by kernel_rfl) rfl rfl rfl hS51 (fun W205 hW205 => Yl.eqb (Yl.neq rfl rfl rfl) (congrArg (fun b => !b) hg15)) ?_
                                  refine RH.take 2 rfl (by kernel_rfl) rfl rfl rfl hS51 (fun W206 hW206 => Yl.move rfl rfl) ?_
                                  refine RH.take 3 rfl (by kernel_rfl) rfl rfl rfl hS51 (fun W207 hW207 => Yl.loadAgg (cs := [.slice ps3 (((parR c d).1).length) cs3]) rfl rfl many24 (Blk.cells (Kp.blk hW207 hK228 (by simp)))) ?_
                                  refine RH.one 4 (by kernel_rfl) ?_
                                  refine RO.fn rfl rfl rfl rfl (Yc.func #[.agg #[.slice ps3 (((parR c d).1).length) cs3]] rfl ok15 (args1 rfl)) (c15 (hR103.wide (Nat.zero_le _) (by omega))) ?_
                                  rintro _ w68 ⟨rfl, H63⟩
                                  have hS52 := Kp.step hS51 H63
                                  have hB68 := Bl.step hB67 H63
                                  have hK229 := Blk.below hK225 H63
                                  have hK230 := Blk.below hK226 H63
                                  have hK231 := Blk.below hK227 H63
                                  have hK232 := Blk.below hK228 H63
                                  have hR104 := hR102.mono (kept_below H63 (by omega))
                                  have hR105 := hR103.mono (kept_below H63 (by omega))
                                  have hz63 := H63.size
                                  rw [hv_q]
                                  refine ⟨hS52, ?_⟩
                                  refine RH.take 5 rfl (by kernel_rfl) rfl rfl rfl hS52 (fun W209 hW209 => Yl.move rfl rfl) ?_
                                  refine RH.take 6 rfl (by kernel_rfl) rfl rfl rfl hS52 (fun W210 hW210 => Yl.loadAgg (cs := [.slice ps3 (((parR c d).1).length) cs3]) rfl rfl many24 (Blk.cells (Kp.blk hW210 hK228 (by simp)))) ?_
                                  refine RH.take 8 rfl (by kernel_rfl) rfl rfl rfl hS52 (fun W212 hW212 => Yl.loadAgg (cs := [.slice p c.length cc]) rfl rfl many24 (Blk.cells (Kp.blk hW212 hK225 (by simp)))) ?_
                                  refine RH.take 10 rfl (by kernel_rfl) rfl rfl rfl hS52 (fun W214 hW214 => Yl.loadAgg (cs := [.slice p2 d.length cd]) rfl rfl many24 (Blk.cells (Kp.blk hW214 hK226 (by simp)))) ?_
                                  refine RH.one 7 (by kernel_rfl) ?_
                                  refine RO.fn rfl rfl rfl rfl (Yc.func #[.agg #[.slice ps3 (((parR c d).1).length) cs3]] rfl ok24 (args1 rfl)) (c24 (hR105.wide (Nat.zero_le _) (by omega)) (validB_chanT hv_q)) ?_
                                  rintro _ w69 ⟨rfl, H64⟩
                                  have hS53 := Kp.step hS52 H64
                                  have hB69 := Bl.step hB68 H64
                                  have hK233 := Blk.below hK229 H64
                                  have hK234 := Blk.below hK230 H64
                                  have hK235 := Blk.below hK231 H64
                                  have hK236 := Blk.below hK232 H64
                                  have hR106 := hR104.mono (kept_below H64 (by omega))
                                  have hR107 := hR105.mono (kept_below H64 (by omega))
                                  have hz64 := H64.size
                                  refine ⟨hS53, ?_⟩
                                  refine RH.one 9 (by kernel_rfl) ?_
                                  refine RO.fn rfl rfl rfl rfl (Yc.func #[.agg #[.slice p c.length cc]] rfl ok24 (args1 rfl)) (c24 ((hv.mono (kept_from hB0 hB69 (Nat.le_refl _))).wide (Nat.zero_le _) (by omega)) (validB_chanT hv_c)) ?_
                                  rintro _ w70 ⟨rfl, H65⟩
                                  have hS54 := Kp.step hS53 H65
                                  have hB70 := Bl.step hB69 H65
                                  have hK237 := Blk.below hK233 H65
                                  have hK238 := Blk.below hK234 H65
                                  have hK239 := Blk.below hK235 H65
                                  have hK240 := Blk.below hK236 H65
                                  have hR108 := hR106.mono (kept_below H65 (by omega))
                                  have hR109 := hR107.mono (kept_below H65 (by omega))
                                  have hz65 := H65.size
                                  refine ⟨hS54, ?_⟩
                                  refine RH.one 11 (by kernel_rfl) ?_
                                  refine RO.fn rfl rfl rfl rfl (Yc.func #[.agg #[.slice p2 d.length cd]] rfl ok24 (args1 rfl)) (c24 ((hu.mono (kept_from hB0 hB70 (Nat.le_refl _))).wide (Nat.zero_le _) (by omega)) (validB_chanT hv_d)) ?_
                                  rintro _ w71 ⟨rfl, H66⟩
                                  have hS55 := Kp.step hS54 H66
                                  have hB71 := Bl.step hB70 H66
                                  have hK241 := Blk.below hK237 H66
                                  have hK242 := Blk.below hK238 H66
                                  have hK243 := Blk.below hK239 H66
                                  have hK244 := Blk.below hK240 H66
                                  have hR110 := hR108.mono (kept_below H66 (by omega))
                                  have hR111 := hR109.mono (kept_below H66 (by omega))
                                  have hz66 := H66.size
                                  refine ⟨hS55, ?_⟩
                                  refine RH.take 12 rfl (by kernel_rfl) rfl rfl rfl hS55 (fun W218 hW218 => Yl.mul (m := worthM c) (n := worthM d) rfl rfl rfl (by omega)) ?_
                                  refine RH.take 13 rfl (by kernel_rfl) rfl rfl rfl hS55 (fun W219 hW219 => Yl.eqb (Yl.leq rfl rfl rfl) hg16) ?_
                                  refine RH.take 14 rfl (by kernel_rfl) rfl rfl rfl hS55 (fun W220 hW220 => Yl.pickT rfl rfl rfl) ?_
                                  refine RH.take 15 rfl (by kernel_rfl) rfl rfl rfl hS55 (fun W221 hW221 => Yl.move rfl rfl) ?_
                                  refine RH.take 16 rfl (by kernel_rfl) rfl rfl rfl hS55 (fun W222 hW222 => Yl.loadAgg (cs := [.slice ps3 (((parR c d).1).length) cs3]) rfl rfl many24 (Blk.cells (Kp.blk hW222 hK228 (by simp)))) ?_
                                  refine RH.take 18 rfl (by kernel_rfl) rfl rfl rfl hS55 (fun W224 hW224 => Yl.loadAgg (cs := [.slice p c.length cc]) rfl rfl many24 (Blk.cells (Kp.blk hW224 hK225 (by simp)))) ?_
                                  refine RH.take 20 rfl (by kernel_rfl) rfl rfl rfl hS55 (fun W226 hW226 => Yl.loadAgg (cs := [.slice p2 d.length cd]) rfl rfl many24 (Blk.cells (Kp.blk hW226 hK226 (by simp)))) ?_
                                  refine RH.one 17 (by kernel_rfl) ?_
                                  refine RO.fn rfl rfl rfl rfl (Yc.func #[.agg #[.slice ps3 (((parR c d).1).length) cs3]] rfl ok24 (args1 rfl)) (c24 (hR111.wide (Nat.zero_le _) (by omega)) (validB_chanT hv_q)) ?_
                                  rintro _ w72 ⟨rfl, H67⟩
                                  have hS56 := Kp.step hS55 H67
                                  have hB72 := Bl.step hB71 H67
                                  have hK245 := Blk.below hK241 H67
                                  have hK246 := Blk.below hK242 H67
                                  have hK247 := Blk.below hK243 H67
                                  have hK248 := Blk.below hK244 H67
                                  have hR112 := hR110.mono (kept_below H67 (by omega))
                                  have hR113 := hR111.mono (kept_below H67 (by omega))
                                  have hz67 := H67.size
                                  refine ⟨hS56, ?_⟩
                                  refine RH.one 19 (by kernel_rfl) ?_
                                  refine RO.fn rfl rfl rfl rfl (Yc.func #[.agg #[.slice p c.length cc]] rfl ok24 (args1 rfl)) (c24 ((hv.mono (kept_from hB0 hB72 (Nat.le_refl _))).wide (Nat.zero_le _) (by omega)) (validB_chanT hv_c)) ?_
                                  rintro _ w73 ⟨rfl, H68⟩
                                  have hS57 := Kp.step hS56 H68
                                  have hB73 := Bl.step hB72 H68
                                  have hK249 := Blk.below hK245 H68
                                  have hK250 := Blk.below hK246 H68
                                  have hK251 := Blk.below hK247 H68
                                  have hK252 := Blk.below hK248 H68
                                  have hR114 := hR112.mono (kept_below H68 (by omega))
                                  have hR115 := hR113.mono (kept_below H68 (by omega))
                                  have hz68 := H68.size
                                  refine ⟨hS57, ?_⟩
                                  refine RH.one 21 (by kernel_rfl) ?_
                                  refine RO.fn rfl rfl rfl rfl (Yc.func #[.agg #[.slice p2 d.length cd]] rfl ok17 (args1 rfl)) (c17 ((hu.mono (kept_from hB0 hB73 (Nat.le_refl _))).wide (Nat.zero_le _) (by omega)) (validB_chanT hv_d)) ?_
                                  rintro _ w74 ⟨rfl, H69⟩
                                  have hS58 := Kp.step hS57 H69
                                  have hB74 := Bl.step hB73 H69
                                  have hK253 := Blk.below hK249 H69
                                  have hK254 := Blk.below hK250 H69
                                  have hK255 := Blk.below hK251 H69
                                  have hK256 := Blk.below hK252 H69
                                  have hR116 := hR114.mono (kept_below H69 (by omega))
                                  have hR117 := hR115.mono (kept_below H69 (by omega))
                                  have hz69 := H69.size
                                  refine ⟨hS58, ?_⟩
                                  refine RH.take 22 rfl (by kernel_rfl) rfl rfl rfl hS58 (fun W230 hW230 => Yl.mul (m := worthM c) (n := totG d) rfl rfl rfl (by omega)) ?_
                                  refine RH.take 23 rfl (by kernel_rfl) rfl rfl rfl hS58 (fun W231 hW231 => Yl.eqb (Yl.geq rfl rfl rfl) hg17) ?_
                                  refine RH.take 24 rfl (by kernel_rfl) rfl rfl rfl hS58 (fun W232 hW232 => Yl.pickT rfl rfl rfl) ?_
                                  refine RH.take 25 rfl (by kernel_rfl) rfl rfl rfl hS58 (fun W233 hW233 => Yl.move rfl rfl) ?_
                                  refine RH.pass 26 rfl (by kernel_rfl) rfl rfl rfl hS58 ?_
                                  refine RH.pass 27 rfl (by kernel_rfl) rfl rfl rfl hS58 ?_
                                  refine RH.pass 28 rfl (by kernel_rfl) rfl rfl rfl hS58 ?_
                                  refine RH.pass 29 rfl (by kernel_rfl) rfl rfl rfl hS58 ?_
                                  refine RH.pass 30 rfl (by kernel_rfl) rfl rfl rfl hS58 ?_
                                  refine RH.pass 31 rfl (by kernel_rfl) rfl rfl rfl hS58 ?_
                                  refine RH.pass 32 rfl (by kernel_rfl) rfl rfl rfl hS58 ?_
                                  refine RH.pass 33 rfl (by kernel_rfl) rfl rfl rfl hS58 ?_
                                  refine RH.take 34 rfl (by kernel_rfl) rfl rfl rfl hS58 (fun W234 hW234 => Yl.pickF rfl rfl rfl) ?_
                                  refine RH.take 35 rfl (by kernel_rfl) rfl rfl rfl hS58 (fun W235 hW235 => Yl.pickF rfl rfl rfl) ?_
                                  refine RH.take 36 rfl (by kernel_rfl) rfl rfl rfl hS58 (fun W236 hW236 => Yl.assign rfl rfl) ?_
                                  refine RH.done (by kernel_rfl) ?_
                                  change CW _ _ _ _ _ _
                                  refine CW.ret ?_
                                  change FinQ _ _ _ _ _ _
                                  refine fin1 (.inr rfl) rfl rfl ?_
                                  exact ⟨_, rfl, bval (by first | rfl | exact decide_eq_true (by omega) | exact decide_eq_true (by assumption)), hB74⟩))
                          ·
                            have hq16 := of_decide_eq_false hg16
                            first
                            | (exfalso; omega)
                            | (
                              refine CW.draw 37 rfl (Kp []) (by kernel_rfl) ?_
                              intro w75 H70
                              have hB75 := Bl.step hB55 H70
                              have hK257 := Blk.below hK177 H70
                              have hK258 := Blk.below hK178 H70
                              have hK259 := Blk.below hK179 H70
                              have hK260 := Blk.below hK180 H70
                              have hR118 := hR78.mono (kept_below H70 (by omega))
                              have hR119 := hR79.mono (kept_below H70 (by omega))
                              have hz70 := H70.size
                              have hS59 := Kp.refl [] w75
                              refine RH.take 0 rfl (by kernel_rfl) rfl rfl rfl hS59 (fun W237 hW237 => Yl.move rfl rfl) ?_
                              refine RH.take 1 rfl (by kernel_rfl) rfl rfl rfl hS59 (fun W238 hW238 => Yl.eqb (Yl.neq rfl rfl rfl) (congrArg (fun b => !b) hg15)) ?_
                              refine RH.take 2 rfl (by kernel_rfl) rfl rfl rfl hS59 (fun W239 hW239 => Yl.move rfl rfl) ?_
                              refine RH.take 3 rfl (by kernel_rfl) rfl rfl rfl hS59 (fun W240 hW240 => Yl.loadAgg (cs := [.slice ps3 (((parR c d).1).length) cs3]) rfl rfl many24 (Blk.cells (Kp.blk hW240 hK260 (by simp)))) ?_
                              refine RH.one 4 (by kernel_rfl) ?_
                              refine RO.fn rfl rfl rfl rfl (Yc.func #[.agg #[.slice ps3 (((parR c d).1).length) cs3]] rfl ok15 (args1 rfl)) (c15 (hR119.wide (Nat.zero_le _) (by omega))) ?_
                              rintro _ w76 ⟨rfl, H71⟩
                              have hS60 := Kp.step hS59 H71
                              have hB76 := Bl.step hB75 H71
                              have hK261 := Blk.below hK257 H71
                              have hK262 := Blk.below hK258 H71
                              have hK263 := Blk.below hK259 H71
                              have hK264 := Blk.below hK260 H71
                              have hR120 := hR118.mono (kept_below H71 (by omega))
                              have hR121 := hR119.mono (kept_below H71 (by omega))
                              have hz71 := H71.size
                              rw [hv_q]
                              refine ⟨hS60, ?_⟩
                              refine RH.take 5 rfl (by kernel_rfl) rfl rfl rfl hS60 (fun W242 hW242 => Yl.move rfl rfl) ?_
                              refine RH.take 6 rfl (by kernel_rfl) rfl rfl rfl hS60 (fun W243 hW243 => Yl.loadAgg (cs := [.slice ps3 (((parR c d).1).length) cs3]) rfl rfl many24 (Blk.cells (Kp.blk hW243 hK260 (by simp)))) ?_
                              refine RH.take 8 rfl (by kernel_rfl) rfl rfl rfl hS60 (fun W245 hW245 => Yl.loadAgg (cs := [.slice p c.length cc]) rfl rfl many24 (Blk.cells (Kp.blk hW245 hK257 (by simp)))) ?_
                              refine RH.take 10 rfl (by kernel_rfl) rfl rfl rfl hS60 (fun W247 hW247 => Yl.loadAgg (cs := [.slice p2 d.length cd]) rfl rfl many24 (Blk.cells (Kp.blk hW247 hK258 (by simp)))) ?_
                              refine RH.one 7 (by kernel_rfl) ?_
                              refine RO.fn rfl rfl rfl rfl (Yc.func #[.agg #[.slice ps3 (((parR c d).1).length) cs3]] rfl ok24 (args1 rfl)) (c24 (hR121.wide (Nat.zero_le _) (by omega)) (validB_chanT hv_q)) ?_
                              rintro _ w77 ⟨rfl, H72⟩
                              have hS61 := Kp.step hS60 H72
                              have hB77 := Bl.step hB76 H72
                              have hK265 := Blk.below hK261 H72
                              have hK266 := Blk.below hK262 H72
                              have hK267 := Blk.below hK263 H72
                              have hK268 := Blk.below hK264 H72
                              have hR122 := hR120.mono (kept_below H72 (by omega))
                              have hR123 := hR121.mono (kept_below H72 (by omega))
                              have hz72 := H72.size
                              refine ⟨hS61, ?_⟩
                              refine RH.one 9 (by kernel_rfl) ?_
                              refine RO.fn rfl rfl rfl rfl (Yc.func #[.agg #[.slice p c.length cc]] rfl ok24 (args1 rfl)) (c24 ((hv.mono (kept_from hB0 hB77 (Nat.le_refl _))).wide (Nat.zero_le _) (by omega)) (validB_chanT hv_c)) ?_
                              rintro _ w78 ⟨rfl, H73⟩
                              have hS62 := Kp.step hS61 H73
                              have hB78 := Bl.step hB77 H73
                              have hK269 := Blk.below hK265 H73
                              have hK270 := Blk.below hK266 H73
                              have hK271 := Blk.below hK267 H73
                              have hK272 := Blk.below hK268 H73
                              have hR124 := hR122.mono (kept_below H73 (by omega))
                              have hR125 := hR123.mono (kept_below H73 (by omega))
                              have hz73 := H73.size
                              refine ⟨hS62, ?_⟩
                              refine RH.one 11 (by kernel_rfl) ?_
                              refine RO.fn rfl rfl rfl rfl (Yc.func #[.agg #[.slice p2 d.length cd]] rfl ok24 (args1 rfl)) (c24 ((hu.mono (kept_from hB0 hB78 (Nat.le_refl _))).wide (Nat.zero_le _) (by omega)) (validB_chanT hv_d)) ?_
                              rintro _ w79 ⟨rfl, H74⟩
                              have hS63 := Kp.step hS62 H74
                              have hB79 := Bl.step hB78 H74
                              have hK273 := Blk.below hK269 H74
                              have hK274 := Blk.below hK270 H74
                              have hK275 := Blk.below hK271 H74
                              have hK276 := Blk.below hK272 H74
                              have hR126 := hR124.mono (kept_below H74 (by omega))
                              have hR127 := hR125.mono (kept_below H74 (by omega))
                              have hz74 := H74.size
                              refine ⟨hS63, ?_⟩
                              refine RH.take 12 rfl (by kernel_rfl) rfl rfl rfl hS63 (fun W251 hW251 => Yl.mul (m := worthM c) (n := worthM d) rfl rfl rfl (by omega)) ?_
                              refine RH.take 13 rfl (by kernel_rfl) rfl rfl rfl hS63 (fun W252 hW252 => Yl.eqb (Yl.leq rfl rfl rfl) hg16) ?_
                              refine RH.take 14 rfl (by kernel_rfl) rfl rfl rfl hS63 (fun W253 hW253 => Yl.pickT rfl rfl rfl) ?_
                              refine RH.take 15 rfl (by kernel_rfl) rfl rfl rfl hS63 (fun W254 hW254 => Yl.move rfl rfl) ?_
                              refine RH.pass 16 rfl (by kernel_rfl) rfl rfl rfl hS63 ?_
                              refine RH.pass 17 rfl (by kernel_rfl) rfl rfl rfl hS63 ?_
                              refine RH.pass 18 rfl (by kernel_rfl) rfl rfl rfl hS63 ?_
                              refine RH.pass 19 rfl (by kernel_rfl) rfl rfl rfl hS63 ?_
                              refine RH.pass 20 rfl (by kernel_rfl) rfl rfl rfl hS63 ?_
                              refine RH.pass 21 rfl (by kernel_rfl) rfl rfl rfl hS63 ?_
                              refine RH.pass 22 rfl (by kernel_rfl) rfl rfl rfl hS63 ?_
                              refine RH.pass 23 rfl (by kernel_rfl) rfl rfl rfl hS63 ?_
                              refine RH.take 24 rfl (by kernel_rfl) rfl rfl rfl hS63 (fun W255 hW255 => Yl.pickF rfl rfl rfl) ?_
                              refine RH.take 25 rfl (by kernel_rfl) rfl rfl rfl hS63 (fun W256 hW256 => Yl.move rfl rfl) ?_
                              refine RH.pass 26 rfl (by kernel_rfl) rfl rfl rfl hS63 ?_
                              refine RH.pass 27 rfl (by kernel_rfl) rfl rfl rfl hS63 ?_
                              refine RH.pass 28 rfl (by kernel_rfl) rfl rfl rfl hS63 ?_
                              refine RH.pass 29 rfl (by kernel_rfl) rfl rfl rfl hS63 ?_
                              refine RH.pass 30 rfl (by kernel_rfl) rfl rfl rfl hS63 ?_
                              refine RH.pass 31 rfl (by kernel_rfl) rfl rfl rfl hS63 ?_
                              refine RH.pass 32 rfl (by kernel_rfl) rfl rfl rfl hS63 ?_
                              refine RH.pass 33 rfl (by kernel_rfl) rfl rfl rfl hS63 ?_
                              refine RH.take 34 rfl (by kernel_rfl) rfl rfl rfl hS63 (fun W257 hW257 => Yl.pickF rfl rfl rfl) ?_
                              refine RH.take 35 rfl (by kernel_rfl) rfl rfl rfl hS63 (fun W258 hW258 => Yl.pickF rfl rfl rfl) ?_
                              refine RH.take 36 rfl (by kernel_rfl) rfl rfl rfl hS63 (fun W259 hW259 => Yl.assign rfl rfl) ?_
                              refine RH.done (by kernel_rfl) ?_
                              change CW _ _ _ _ _ _
                              refine CW.ret ?_
                              change FinQ _ _ _ _ _ _
                              refine fin1 (.inr rfl) rfl rfl ?_
                              exact ⟨_, rfl, bval (by first | rfl | exact decide_eq_true (by omega) | exact decide_eq_true (by assumption)), hB79⟩))
                      ·
                        have hq15 := of_decide_eq_false hg15
                        first
                        | (exfalso; omega)
                        | (
                          refine CW.draw 37 rfl (Kp []) (by kernel_rfl) ?_
                          intro w80 H75
                          have hB80 := Bl.step hB55 H75
                          have hK277 := Blk.below hK177 H75
                          have hK278 := Blk.below hK178 H75
                          have hK279 := Blk.below hK179 H75
                          have hK280 := Blk.below hK180 H75
                          have hR128 := hR78.mono (kept_below H75 (by omega))
                          have hR129 := hR79.mono (kept_below H75 (by omega))
                          have hz75 := H75.size
                          have hS64 := Kp.refl [] w80
                          refine RH.take 0 rfl (by kernel_rfl) rfl rfl rfl hS64 (fun W260 hW260 => Yl.move rfl rfl) ?_
                          refine RH.take 1 rfl (by kernel_rfl) rfl rfl rfl hS64 (fun W261 hW261 => Yl.eqb (Yl.neq rfl rfl rfl) (congrArg (fun b => !b) hg15)) ?_
                          refine RH.take 2 rfl (by kernel_rfl) rfl rfl rfl hS64 (fun W262 hW262 => Yl.move rfl rfl) ?_
                          refine RH.pass 3 rfl (by kernel_rfl) rfl rfl rfl hS64 ?_
                          refine RH.pass 4 rfl (by kernel_rfl) rfl rfl rfl hS64 ?_
                          refine RH.pass 5 rfl (by kernel_rfl) rfl rfl rfl hS64 ?_
                          refine RH.pass 6 rfl (by kernel_rfl) rfl rfl rfl hS64 ?_
                          refine RH.pass 7 rfl (by kernel_rfl) rfl rfl rfl hS64 ?_
                          refine RH.pass 8 rfl (by kernel_rfl) rfl rfl rfl hS64 ?_
                          refine RH.pass 9 rfl (by kernel_rfl) rfl rfl rfl hS64 ?_
                          refine RH.pass 10 rfl (by kernel_rfl) rfl rfl rfl hS64 ?_
                          refine RH.pass 11 rfl (by kernel_rfl) rfl rfl rfl hS64 ?_
                          refine RH.pass 12 rfl (by kernel_rfl) rfl rfl rfl hS64 ?_
                          refine RH.pass 13 rfl (by kernel_rfl) rfl rfl rfl hS64 ?_
                          refine RH.pass 14 rfl (by kernel_rfl) rfl rfl rfl hS64 ?_
                          refine RH.pass 15 rfl (by kernel_rfl) rfl rfl rfl hS64 ?_
                          refine RH.pass 16 rfl (by kernel_rfl) rfl rfl rfl hS64 ?_
                          refine RH.pass 17 rfl (by kernel_rfl) rfl rfl rfl hS64 ?_
                          refine RH.pass 18 rfl (by kernel_rfl) rfl rfl rfl hS64 ?_
                          refine RH.pass 19 rfl (by kernel_rfl) rfl rfl rfl hS64 ?_
                          refine RH.pass 20 rfl (by kernel_rfl) rfl rfl rfl hS64 ?_
                          refine RH.pass 21 rfl (by kernel_rfl) rfl rfl rfl hS64 ?_
                          refine RH.pass 22 rfl (by kernel_rfl) rfl rfl rfl hS64 ?_
                          refine RH.pass 23 rfl (by kernel_rfl) rfl rfl rfl hS64 ?_
                          refine RH.pass 24 rfl (by kernel_rfl) rfl rfl rfl hS64 ?_
                          refine RH.pass 25 rfl (by kernel_rfl) rfl rfl rfl hS64 ?_
                          refine RH.pass 26 rfl (by kernel_rfl) rfl rfl rfl hS64 ?_
                          refine RH.pass 27 rfl (by kernel_rfl) rfl rfl rfl hS64 ?_
                          refine RH.pass 28 rfl (by kernel_rfl) rfl rfl rfl hS64 ?_
                          refine RH.pass 29 rfl (by kernel_rfl) rfl rfl rfl hS64 ?_
                          refine RH.pass 30 rfl (by kernel_rfl) rfl rfl rfl hS64 ?_
                          refine RH.pass 31 rfl (by kernel_rfl) rfl rfl rfl hS64 ?_
                          refine RH.pass 32 rfl (by kernel_rfl) rfl rfl rfl hS64 ?_
                          refine RH.pass 33 rfl (by kernel_rfl) rfl rfl rfl hS64 ?_
                          refine RH.pass 34 rfl (by kernel_rfl) rfl rfl rfl hS64 ?_
                          refine RH.take 35 rfl (by kernel_rfl) rfl rfl rfl hS64 (fun W263 hW263 => Yl.pickT rfl rfl rfl) ?_
                          refine RH.take 36 rfl (by kernel_rfl) rfl rfl rfl hS64 (fun W264 hW264 => Yl.assign rfl rfl) ?_
                          refine RH.done (by kernel_rfl) ?_
                          change CW _ _ _ _ _ _
                          refine CW.ret ?_
                          change FinQ _ _ _ _ _ _
                          refine fin1 (.inr rfl) rfl rfl ?_
                          exact ⟨_, rfl, bval (by first | rfl | exact decide_eq_true (by omega) | exact decide_eq_true (by assumption)), hB80⟩))))
          ·
            first
            | (exfalso; omega)
            | (
              refine CW.region ?_
              refine RW.yl rfl rfl rfl (Yl.loadAgg (cs := [.slice p c.length cc]) rfl rfl many24 (Blk.cells hK2)) ?_
              refine RW.fn rfl rfl rfl (Yc.func #[.agg #[.slice p c.length cc], .int .i64 8] rfl ok13 (args2 rfl rfl)) (c13 ((hv.mono (kept_from hB0 hB3 (Nat.le_refl _))).wide (Nat.zero_le _) (by omega))) ?_
              rintro _ w81 ⟨rfl, H76⟩
              have hB81 := Bl.step hB3 H76
              have hK281 := Blk.below hK2 H76
              have hK282 := Blk.below hK3 H76
              have hz76 := H76.size
              rw [hg1]
              refine RW.yl rfl rfl rfl (Yl.not rfl rfl) ?_
              refine RW.yl rfl rfl rfl (Yl.move rfl rfl) ?_
              refine RW.yl rfl rfl rfl (Yl.loadAgg (cs := [.slice p2 d.length cd]) rfl rfl many24 (Blk.cells hK282)) ?_
              refine RW.fn rfl rfl rfl (Yc.func #[.agg #[.slice p2 d.length cd], .int .i64 8] rfl ok13 (args2 rfl rfl)) (c13 ((hu.mono (kept_from hB0 hB81 (Nat.le_refl _))).wide (Nat.zero_le _) (by omega))) ?_
              rintro _ w82 ⟨rfl, H77⟩
              have hB82 := Bl.step hB81 H77
              have hK283 := Blk.below hK281 H77
              have hK284 := Blk.below hK282 H77
              have hz77 := H77.size
              rw [hg2]
              refine RW.yl rfl rfl rfl (Yl.not rfl rfl) ?_
              refine RW.yl rfl rfl rfl (Yl.pickF rfl rfl rfl) ?_
              refine RW.yl rfl rfl rfl (Yl.move rfl rfl) ?_
              refine RW.yl rfl rfl rfl (Yl.loadAgg (cs := [.slice p c.length cc]) rfl rfl many24 (Blk.cells hK283)) ?_
              refine RW.fn rfl rfl rfl (Yc.func #[.agg #[.slice p c.length cc]] rfl ok15 (args1 rfl)) (c15 ((hv.mono (kept_from hB0 hB82 (Nat.le_refl _))).wide (Nat.zero_le _) (by omega))) ?_
              rintro _ w83 ⟨rfl, H78⟩
              have hB83 := Bl.step hB82 H78
              have hK285 := Blk.below hK283 H78
              have hK286 := Blk.below hK284 H78
              have hz78 := H78.size
              rw [hg3]
              refine RW.yl rfl rfl rfl (Yl.not rfl rfl) ?_
              refine RW.yl rfl rfl rfl (Yl.pickF rfl rfl rfl) ?_
              refine RW.yl rfl rfl rfl (Yl.move rfl rfl) ?_
              refine RW.skip rfl rfl rfl ?_
              refine RW.skip rfl rfl rfl ?_
              refine RW.skip rfl rfl rfl ?_
              refine RW.yl rfl rfl rfl (Yl.pickT rfl rfl rfl) ?_
              refine RW.nil ?_
              change CW _ _ _ _ _ _
              refine CW.condT rfl ?_
              refine CW.seq ?_
              refine CW.region ?_
              refine RW.yl rfl rfl rfl (Yl.assign rfl rfl) ?_
              refine RW.nil ?_
              change CW _ _ _ _ _ _
              refine CW.ret ?_
              change FinQ _ _ _ _ _ _
              refine fin1 (.inr rfl) rfl rfl ?_
              exact ⟨_, rfl, bval (by first | rfl | exact decide_eq_true (by omega) | exact decide_eq_true (by assumption)), hB83⟩))
      ·
        first
        | (exfalso; omega)
        | (
          refine CW.region ?_
          refine RW.yl rfl rfl rfl (Yl.loadAgg (cs := [.slice p c.length cc]) rfl rfl many24 (Blk.cells hK2)) ?_
          refine RW.fn rfl rfl rfl (Yc.func #[.agg #[.slice p c.length cc], .int .i64 8] rfl ok13 (args2 rfl rfl)) (c13 ((hv.mono (kept_from hB0 hB3 (Nat.le_refl _))).wide (Nat.zero_le _) (by omega))) ?_
          rintro _ w84 ⟨rfl, H79⟩
          have hB84 := Bl.step hB3 H79
          have hK287 := Blk.below hK2 H79
          have hK288 := Blk.below hK3 H79
          have hz79 := H79.size
          rw [hg1]
          refine RW.yl rfl rfl rfl (Yl.not rfl rfl) ?_
          refine RW.yl rfl rfl rfl (Yl.move rfl rfl) ?_
          refine RW.yl rfl rfl rfl (Yl.loadAgg (cs := [.slice p2 d.length cd]) rfl rfl many24 (Blk.cells hK288)) ?_
          refine RW.fn rfl rfl rfl (Yc.func #[.agg #[.slice p2 d.length cd], .int .i64 8] rfl ok13 (args2 rfl rfl)) (c13 ((hu.mono (kept_from hB0 hB84 (Nat.le_refl _))).wide (Nat.zero_le _) (by omega))) ?_
          rintro _ w85 ⟨rfl, H80⟩
          have hB85 := Bl.step hB84 H80
          have hK289 := Blk.below hK287 H80
          have hK290 := Blk.below hK288 H80
          have hz80 := H80.size
          rw [hg2]
          refine RW.yl rfl rfl rfl (Yl.not rfl rfl) ?_
          refine RW.yl rfl rfl rfl (Yl.pickF rfl rfl rfl) ?_
          refine RW.yl rfl rfl rfl (Yl.move rfl rfl) ?_
          refine RW.skip rfl rfl rfl ?_
          refine RW.skip rfl rfl rfl ?_
          refine RW.skip rfl rfl rfl ?_
          refine RW.yl rfl rfl rfl (Yl.pickT rfl rfl rfl) ?_
          refine RW.yl rfl rfl rfl (Yl.move rfl rfl) ?_
          refine RW.skip rfl rfl rfl ?_
          refine RW.skip rfl rfl rfl ?_
          refine RW.skip rfl rfl rfl ?_
          refine RW.yl rfl rfl rfl (Yl.pickT rfl rfl rfl) ?_
          refine RW.nil ?_
          change CW _ _ _ _ _ _
          refine CW.condT rfl ?_
          refine CW.seq ?_
          refine CW.region ?_
          refine RW.yl rfl rfl rfl (Yl.assign rfl rfl) ?_
          refine RW.nil ?_
          change CW _ _ _ _ _ _
          refine CW.ret ?_
          change FinQ _ _ _ _ _ _
          refine fin1 (.inr rfl) rfl rfl ?_
          exact ⟨_, rfl, bval (by first | rfl | exact decide_eq_true (by omega) | exact decide_eq_true (by assumption)), hB85⟩))
  ·
    first
    | (exfalso; omega)
    | (
      refine CW.region ?_
      refine RW.yl rfl rfl rfl (Yl.loadAgg (cs := [.slice p c.length cc]) rfl rfl many24 (Blk.cells hK2)) ?_
      refine RW.fn rfl rfl rfl (Yc.func #[.agg #[.slice p c.length cc], .int .i64 8] rfl ok13 (args2 rfl rfl)) (c13 ((hv.mono (kept_from hB0 hB3 (Nat.le_refl _))).wide (Nat.zero_le _) (by omega))) ?_
      rintro _ w86 ⟨rfl, H81⟩
      have hB86 := Bl.step hB3 H81
      have hK291 := Blk.below hK2 H81
      have hK292 := Blk.below hK3 H81
      have hz81 := H81.size
      rw [hg1]
      refine RW.yl rfl rfl rfl (Yl.not rfl rfl) ?_
      refine RW.yl rfl rfl rfl (Yl.move rfl rfl) ?_
      refine RW.skip rfl rfl rfl ?_
      refine RW.skip rfl rfl rfl ?_
      refine RW.skip rfl rfl rfl ?_
      refine RW.yl rfl rfl rfl (Yl.pickT rfl rfl rfl) ?_
      refine RW.yl rfl rfl rfl (Yl.move rfl rfl) ?_
      refine RW.skip rfl rfl rfl ?_
      refine RW.skip rfl rfl rfl ?_
      refine RW.skip rfl rfl rfl ?_
      refine RW.yl rfl rfl rfl (Yl.pickT rfl rfl rfl) ?_
      refine RW.yl rfl rfl rfl (Yl.move rfl rfl) ?_
      refine RW.skip rfl rfl rfl ?_
      refine RW.skip rfl rfl rfl ?_
      refine RW.skip rfl rfl rfl ?_
      refine RW.yl rfl rfl rfl (Yl.pickT rfl rfl rfl) ?_
      refine RW.nil ?_
      change CW _ _ _ _ _ _
      refine CW.condT rfl ?_
      refine CW.seq ?_
      refine CW.region ?_
      refine RW.yl rfl rfl rfl (Yl.assign rfl rfl) ?_
      refine RW.nil ?_
      change CW _ _ _ _ _ _
      refine CW.ret ?_
      change FinQ _ _ _ _ _ _
      refine fin1 (.inr rfl) rfl rfl ?_
      exact ⟨_, rfl, bval (by first | rfl | exact decide_eq_true (by omega) | exact decide_eq_true (by assumption)), hB86⟩)

end Go.Proofs.Ytodeffidnipelaa
