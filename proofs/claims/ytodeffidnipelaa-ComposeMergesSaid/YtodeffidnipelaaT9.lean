/- ComposeCascades. -/
import Derived.Test.YtodeffidnipelaaT8
namespace Go.Proofs.Ytodeffidnipelaa
open Go.RowKit Go.Ev

theorem pairG_ok {c d : List (List Int)} (hc : validB c = true) (hd : validB d = true) : pairG c d = 0 := by unfold pairG; rw [hc, hd]; rfl
theorem cascR_bad {c d : List (List Int)} (h : (validB c && validB d) = false) : cascR c d = ([], 1) := by
  have h1 : pairG c d = 1 := by unfold pairG; rw [h]; rfl
  unfold cascR; rw [h1]; rfl
theorem cascR_len {c d : List (List Int)} (hc : validB c = true) (hd : validB d = true) (h : ¬ (((c[0]!).length : Nat) : Int) = ((d.length : Nat) : Int)) : cascR c d = ([], 2) := by
  unfold cascR; rw [pairG_ok hc hd, if_pos rfl, if_neg h]
theorem limG_one {C : Nat} {t : Int} (h : C ≤ 256) : limG (C : Nat) t = limG 1 t := by
  unfold limG
  by_cases h1 : 1048576 < t
  · rw [if_pos (.inr h1), if_pos (.inr h1)]
  · rw [if_neg (by omega), if_neg (by omega)]
theorem cascR_lim {c d : List (List Int)} (hc : validB c = true) (hd : validB d = true) (h : (((c[0]!).length : Nat) : Int) = ((d.length : Nat) : Int)) (h2 : ¬ limG 1 (totG c * totG d) = 0) : cascR c d = ([], limG 1 (totG c * totG d)) := by
  have h3 := limG_one (t := totG c * totG d) (validB_chan hd).c2
  unfold cascR; rw [pairG_ok hc hd, if_pos rfl, if_pos h, h3, if_neg h2]
theorem cascR_ok {c d : List (List Int)} (hc : validB c = true) (hd : validB d = true) (h : (((c[0]!).length : Nat) : Int) = ((d.length : Nat) : Int)) (h2 : limG 1 (totG c * totG d) = 0) : cascR c d = (cascT c d, 0) := by
  have h3 := limG_one (t := totG c * totG d) (validB_chan hd).c2
  unfold cascR; rw [pairG_ok hc hd, if_pos rfl, if_pos h, h3, if_pos h2]; rfl
theorem c3 {w : World} {v u : Value} {c d : List (List Int)} (hv : RRows 0 w.heap.size w v c) (hu : RRows 0 w.heap.size w u d) :
    Calls Try.prog 3 #[.agg #[v], .agg #[u]] w (Ret fun r w' => r = .bool true ∧ Below w.heap.size w w') := by
  obtain ⟨p, cc, rfl, hl⟩ := hv.form
  obtain ⟨p2, cd, rfl, hl2⟩ := hu.form
  have hB0 : Below w.heap.size w w := Below.refl _ _
  refine Ev.calls (l := [.agg #[.slice p c.length cc], .agg #[.slice p2 d.length cd]]) Try.func3 rfl rfl rfl ?_
  change CW _ _ _ _ [(0, .agg #[.slice p c.length cc]), (1, .agg #[.slice p2 d.length cd])] _
  refine CW.seq ?_
  refine CW.region ?_
  refine RW.newP (cs := #[.slice p c.length cc]) (T := 24) rfl rfl rfl (Yv.box (v := .agg #[.slice p c.length cc]) rfl rfl) ?_
  intro b1 w1 N1
  have lo_b1 : w.heap.size ≤ b1 := by have := hB0.size; have := N1.num; omega
  have hn_b1 := N1.num
  have hs_b1 := N1.size
  have hB1 := Bl.step hB0 N1.below
  refine RW.newP (cs := #[.slice p2 d.length cd]) (T := 24) rfl rfl rfl (Yv.box (v := .agg #[.slice p2 d.length cd]) rfl rfl) ?_
  intro b2 w2 N2
  have ne1 := New.ne N2 N1.blk
  have lo_b2 : w.heap.size ≤ b2 := by have := hB1.size; have := N2.num; omega
  have hn_b2 := N2.num
  have hs_b2 := N2.size
  have hB2 := Bl.step hB1 N2.below
  have hK1 := Blk.below N1.blk N2.below
  refine RW.yl rfl rfl rfl (Yl.assign rfl rfl) ?_
  refine RW.nil ?_
  change CW _ _ _ _ _ _
  refine CW.seq ?_
  refine CW.seq ?_
  refine CW.region ?_
  refine RW.fn rfl rfl rfl (Yc.func #[] rfl ok12 (args0)) (c12) ?_
  rintro _ w3 ⟨rfl, H1⟩
  have hB3 := Bl.step hB2 H1
  have hK2 := Blk.below hK1 H1
  have hK3 := Blk.below N2.blk H1
  have hz1 := H1.size
  refine RW.yl rfl rfl rfl (Yl.not rfl rfl) ?_
  refine RW.nil ?_
  change CW _ _ _ _ _ _
  refine CW.condF rfl ?_
  refine CW.skip ?_
  change CW _ _ _ _ _ _
  refine CW.seq ?_
  refine CW.seq ?_
  rcases Bool.eq_false_or_eq_true (smallB c 20) with hg1 | hg1
  ·
    first
    | (exfalso; omega)
    | (
      refine CW.region ?_
      refine RW.yl rfl rfl rfl (Yl.loadAgg (cs := [.slice p c.length cc]) rfl rfl many24 (Blk.cells hK2)) ?_
      refine RW.fn rfl rfl rfl (Yc.func #[.agg #[.slice p c.length cc], .int .i64 20] rfl ok13 (args2 rfl rfl)) (c13 ((hv.mono (kept_from hB0 hB3 (Nat.le_refl _))).wide (Nat.zero_le _) (by omega))) ?_
      rintro _ w4 ⟨rfl, H2⟩
      have hB4 := Bl.step hB3 H2
      have hK4 := Blk.below hK2 H2
      have hK5 := Blk.below hK3 H2
      have hz2 := H2.size
      rw [hg1]
      refine RW.yl rfl rfl rfl (Yl.not rfl rfl) ?_
      refine RW.yl rfl rfl rfl (Yl.move rfl rfl) ?_
      refine RW.yl rfl rfl rfl (Yl.loadAgg (cs := [.slice p2 d.length cd]) rfl rfl many24 (Blk.cells hK5)) ?_
      refine RW.fn rfl rfl rfl (Yc.func #[.agg #[.slice p2 d.length cd], .int .i64 20] rfl ok13 (args2 rfl rfl)) (c13 ((hu.mono (kept_from hB0 hB4 (Nat.le_refl _))).wide (Nat.zero_le _) (by omega))) ?_
      rintro _ w5 ⟨rfl, H3⟩
      have hB5 := Bl.step hB4 H3
      have hK6 := Blk.below hK4 H3
      have hK7 := Blk.below hK5 H3
      have hz3 := H3.size
      refine RW.yl rfl rfl rfl (Yl.not rfl rfl) ?_
      refine RW.yl rfl rfl rfl (Yl.pickF rfl rfl rfl) ?_
      refine RW.nil ?_
      change CW _ _ _ _ _ _
      refine CW.cond rfl ?_ ?_
      ·
        intro hg2
        have hg3 : smallB d 20 = false := not_t hg2
        first
        | (exfalso; omega)
        | (
          refine CW.seq ?_
          refine CW.region ?_
          refine RW.yl rfl rfl rfl (Yl.assign rfl rfl) ?_
          refine RW.nil ?_
          change CW _ _ _ _ _ _
          refine CW.ret ?_
          change FinQ _ _ _ _ _ _
          refine fin1 (.inr rfl) rfl rfl ?_
          exact ⟨_, rfl, bval (by first | rfl | exact decide_eq_true (by omega) | exact decide_eq_true (by assumption)), hB5⟩)
      ·
        intro hg4
        have hg5 : smallB d 20 = true := not_f hg4
        first
        | (exfalso; omega)
        | (
          refine CW.skip ?_
          change CW _ _ _ _ _ _
          refine CW.seq ?_
          refine CW.region ?_
          refine RW.yl rfl rfl rfl (Yl.loadAgg (cs := [.slice p c.length cc]) rfl rfl many24 (Blk.cells hK6)) ?_
          refine RW.yl rfl rfl rfl (Yl.loadAgg (cs := [.slice p2 d.length cd]) rfl rfl many24 (Blk.cells hK7)) ?_
          refine RW.fn rfl rfl rfl (Yc.func #[.agg #[.slice p c.length cc], .agg #[.slice p2 d.length cd]] rfl ok14 (args2 rfl rfl)) (c14 ((hv.mono (kept_from hB0 hB5 (Nat.le_refl _))).wide (Nat.zero_le _) (by omega)) ((hu.mono (kept_from hB0 hB5 (Nat.le_refl _))).wide (Nat.zero_le _) (by omega))) ?_
          rintro _ w6 ⟨s1, rfl, hR1, H4⟩
          obtain ⟨ps1, cs1, rfl, hl1⟩ := hR1.form
          have hB6 := Bl.step hB5 H4
          have hK8 := Blk.below hK6 H4
          have hK9 := Blk.below hK7 H4
          have hz4 := H4.size
          refine RW.yl rfl rfl rfl (Yl.move rfl rfl) ?_
          refine RW.yl rfl rfl rfl (Yl.extract rfl rfl rfl) ?_
          refine RW.yl rfl rfl rfl (Yl.extract rfl rfl rfl) ?_
          refine RW.newP (cs := #[.slice none 0 0]) (T := 24) rfl rfl rfl (Yv.alloc (z := .agg #[.slice none 0 0]) rfl zero24) ?_
          intro b3 w7 N3
          have ne2 := New.ne N3 hK8
          have ne3 := New.ne N3 hK9
          have lo_b3 : w.heap.size ≤ b3 := by have := hB6.size; have := N3.num; omega
          have hn_b3 := N3.num
          have hs_b3 := N3.size
          have hB7 := Bl.step hB6 N3.below
          have hK10 := Blk.below hK8 N3.below
          have hK11 := Blk.below hK9 N3.below
          have hR2 := hR1.mono (kept_below N3.below (by omega))
          refine RW.stoAll (cs' := #[.slice ps1 (((cascR c d).1).length) cs1]) rfl rfl N3.blk (Yu.storeAll rfl rfl rfl sz24 N3.blk rfl (by simp [Value.oneCell'])) ?_
          intro w8 H5
          have hB8 := Bl.sto hB7 H5 lo_b3
          have hK12 := Blk.sto hK10 H5 ne2
          have hK13 := Blk.sto hK11 H5 ne3
          have hK14 := H5.blk
          have hR3 := hR2.mono (kept_sto H5 (by omega) (by omega))
          have hz5 := H5.size
          refine RW.yl rfl rfl rfl (Yl.assign rfl rfl) ?_
          refine RW.nil ?_
          change CW _ _ _ _ _ _
          refine CW.seq ?_
          refine CW.region ?_
          refine RW.yl rfl rfl rfl (Yl.assign rfl rfl) ?_
          refine RW.nil ?_
          change CW _ _ _ _ _ _
          refine CW.seq ?_
          refine CW.seq ?_
          rcases Bool.eq_false_or_eq_true (validB c) with hg6 | hg6
          ·
            have hv_c : validB c = true := hg6
            have ht_c := totG_bounds hv_c
            have hcc_c := validB_chan hv_c
            have hr1_c := hcc_c.r1
            have hr2_c := hcc_c.r2
            have hc1_c := hcc_c.c1
            have hc2_c := hcc_c.c2
            first
            | (exfalso; omega)
            | (
              refine CW.region ?_
              refine RW.yl rfl rfl rfl (Yl.loadAgg (cs := [.slice p c.length cc]) rfl rfl many24 (Blk.cells hK12)) ?_
              refine RW.fn rfl rfl rfl (Yc.func #[.agg #[.slice p c.length cc]] rfl ok15 (args1 rfl)) (c15 ((hv.mono (kept_from hB0 hB8 (Nat.le_refl _))).wide (Nat.zero_le _) (by omega))) ?_
              rintro _ w9 ⟨rfl, H6⟩
              have hB9 := Bl.step hB8 H6
              have hK15 := Blk.below hK12 H6
              have hK16 := Blk.below hK13 H6
              have hK17 := Blk.below hK14 H6
              have hR4 := hR3.mono (kept_below H6 (by omega))
              have hz6 := H6.size
              rw [hg6]
              refine RW.yl rfl rfl rfl (Yl.move rfl rfl) ?_
              refine RW.yl rfl rfl rfl (Yl.loadAgg (cs := [.slice p2 d.length cd]) rfl rfl many24 (Blk.cells hK16)) ?_
              refine RW.fn rfl rfl rfl (Yc.func #[.agg #[.slice p2 d.length cd]] rfl ok15 (args1 rfl)) (c15 ((hu.mono (kept_from hB0 hB9 (Nat.le_refl _))).wide (Nat.zero_le _) (by omega))) ?_
              rintro _ w10 ⟨rfl, H7⟩
              have hB10 := Bl.step hB9 H7
              have hK18 := Blk.below hK15 H7
              have hK19 := Blk.below hK16 H7
              have hK20 := Blk.below hK17 H7
              have hR5 := hR4.mono (kept_below H7 (by omega))
              have hz7 := H7.size
              refine RW.yl rfl rfl rfl (Yl.pickT rfl rfl rfl) ?_
              refine RW.nil ?_
              change CW _ _ _ _ _ _
              refine CW.cond rfl ?_ ?_
              ·
                intro hg7
                have hv_d : validB d = true := hg7
                have ht_d := totG_bounds hv_d
                have hcc_d := validB_chan hv_d
                have hr1_d := hcc_d.r1
                have hr2_d := hcc_d.r2
                have hc1_d := hcc_d.c1
                have hc2_d := hcc_d.c2
                have hmm := mul_small ⟨ht_c.1, ht_c.2.1⟩ ⟨ht_d.1, ht_d.2.1⟩
                first
                | (exfalso; omega)
                | (
                  refine CW.seq ?_
                  refine CW.region ?_
                  refine RW.yl rfl rfl rfl (Yl.assign rfl rfl) ?_
                  refine RW.nil ?_
                  change CW _ _ _ _ _ _
                  refine CW.seq ?_
                  refine CW.draw 9 rfl (Kp []) (by kernel_rfl) ?_
                  intro w11 H8
                  have hB11 := Bl.step hB10 H8
                  have hK21 := Blk.below hK18 H8
                  have hK22 := Blk.below hK19 H8
                  have hK23 := Blk.below hK20 H8
                  have hR6 := hR5.mono (kept_below H8 (by omega))
                  have hz8 := H8.size
                  have hS1 := Kp.refl [] w11
                  refine RH.take 0 rfl (by kernel_rfl) rfl rfl rfl hS1 (fun W1 hW1 => Yl.fieldAddr rfl rfl Try.underlying24 rfl sz22) ?_
                  refine RH.take 1 rfl (by kernel_rfl) rfl rfl rfl hS1 (fun W2 hW2 => Yl.load rfl rfl one22 (Blk.cell (Kp.blk hW2 hK21 (by simp)) rfl)) ?_
                  obtain ⟨bx1, ox1, px1, cx1, hp1, hl2, hh1, hc1, hx1, hn1⟩ := (hv.mono (kept_from hB0 hB11 (Nat.le_refl _))).at 0 (by omega)
                  refine RH.take 2 rfl (by kernel_rfl) rfl rfl rfl hS1 (fun W3 hW3 => Yl.indexAddr1 (k := 0) rfl rfl rfl Try.underlying22 sz31 hp1 rfl (by omega)) ?_
                  refine RH.take 3 rfl (by kernel_rfl) rfl rfl rfl hS1 (fun W4 hW4 => Yl.load rfl rfl one31 (Kp.cell hW4 hc1 (by simp))) ?_
                  refine RH.take 4 rfl (by kernel_rfl) rfl rfl rfl hS1 (fun W5 hW5 => Yl.len rfl rfl Try.underlying31) ?_
                  refine RH.take 5 rfl (by kernel_rfl) rfl rfl rfl hS1 (fun W6 hW6 => Yl.fieldAddr rfl rfl Try.underlying24 rfl sz22) ?_
                  refine RH.take 6 rfl (by kernel_rfl) rfl rfl rfl hS1 (fun W7 hW7 => Yl.load rfl rfl one22 (Blk.cell (Kp.blk hW7 hK22 (by simp)) rfl)) ?_
                  refine RH.take 7 rfl (by kernel_rfl) rfl rfl rfl hS1 (fun W8 hW8 => Yl.len rfl rfl Try.underlying22) ?_
                  refine RH.take 8 rfl (by kernel_rfl) rfl rfl rfl hS1 (fun W9 hW9 => Yl.eql rfl rfl rfl) ?_
                  refine RH.done (by kernel_rfl) ?_
                  change CW _ _ _ _ _ _
                  refine CW.cond rfl ?_ ?_
                  ·
                    intro hg8
                    have hq7 := of_decide_eq_true hg8
                    first
                    | (exfalso; omega)
                    | (
                      refine CW.draw 7 rfl (Kp []) (by kernel_rfl) ?_
                      intro w12 H9
                      have hB12 := Bl.step hB11 H9
                      have hK24 := Blk.below hK21 H9
                      have hK25 := Blk.below hK22 H9
                      have hK26 := Blk.below hK23 H9
                      have hR7 := hR6.mono (kept_below H9 (by omega))
                      have hz9 := H9.size
                      have hS2 := Kp.refl [] w12
                      refine RH.take 0 rfl (by kernel_rfl) rfl rfl rfl hS2 (fun W10 hW10 => Yl.loadAgg (cs := [.slice p c.length cc]) rfl rfl many24 (Blk.cells (Kp.blk hW10 hK24 (by simp)))) ?_
                      refine RH.take 2 rfl (by kernel_rfl) rfl rfl rfl hS2 (fun W12 hW12 => Yl.loadAgg (cs := [.slice p2 d.length cd]) rfl rfl many24 (Blk.cells (Kp.blk hW12 hK25 (by simp)))) ?_
                      refine RH.one 1 (by kernel_rfl) ?_
                      refine RO.fn rfl rfl rfl rfl (Yc.func #[.agg #[.slice p c.length cc]] rfl ok17 (args1 rfl)) (c17 ((hv.mono (kept_from hB0 hB12 (Nat.le_refl _))).wide (Nat.zero_le _) (by omega)) (validB_chanT hv_c)) ?_
                      rintro _ w13 ⟨rfl, H10⟩
                      have hS3 := Kp.step hS2 H10
                      have hB13 := Bl.step hB12 H10
                      have hK27 := Blk.below hK24 H10
                      have hK28 := Blk.below hK25 H10
                      have hK29 := Blk.below hK26 H10
                      have hR8 := hR7.mono (kept_below H10 (by omega))
                      have hz10 := H10.size
                      refine ⟨hS3, ?_⟩
                      refine RH.one 3 (by kernel_rfl) ?_
                      refine RO.fn rfl rfl rfl rfl (Yc.func #[.agg #[.slice p2 d.length cd]] rfl ok17 (args1 rfl)) (c17 ((hu.mono (kept_from hB0 hB13 (Nat.le_refl _))).wide (Nat.zero_le _) (by omega)) (validB_chanT hv_d)) ?_
                      rintro _ w14 ⟨rfl, H11⟩
                      have hS4 := Kp.step hS3 H11
                      have hB14 := Bl.step hB13 H11
                      have hK30 := Blk.below hK27 H11
                      have hK31 := Blk.below hK28 H11
                      have hK32 := Blk.below hK29 H11
                      have hR9 := hR8.mono (kept_below H11 (by omega))
                      have hz11 := H11.size
                      refine ⟨hS4, ?_⟩
                      refine RH.take 4 rfl (by kernel_rfl) rfl rfl rfl hS4 (fun W15 hW15 => Yl.mul (m := totG c) (n := totG d) rfl rfl rfl (by omega)) ?_
                      refine RH.one 5 (by kernel_rfl) ?_
                      refine RO.fn rfl rfl rfl rfl (Yc.func #[.int .i64 1, .int .i64 ((totG c) * (totG d))] rfl ok16 (args2 rfl rfl)) (c16) ?_
                      rintro _ w15 ⟨rfl, H12⟩
                      have hS5 := Kp.step hS4 H12
                      have hB15 := Bl.step hB14 H12
                      have hK33 := Blk.below hK30 H12
                      have hK34 := Blk.below hK31 H12
                      have hK35 := Blk.below hK32 H12
                      have hR10 := hR9.mono (kept_below H12 (by omega))
                      have hz12 := H12.size
                      refine ⟨hS5, ?_⟩
                      refine RH.take 6 rfl (by kernel_rfl) rfl rfl rfl hS5 (fun W17 hW17 => Yl.assign rfl rfl) ?_
                      refine RH.done (by kernel_rfl) ?_
                      change CW _ _ _ _ _ _
                      refine CW.seq ?_
                      refine CW.seq ?_
                      refine CW.region ?_
                      refine RW.yl rfl rfl rfl (Yl.move rfl rfl) ?_
                      refine RW.yl rfl rfl rfl (Yl.neq rfl rfl rfl) ?_
                      refine RW.nil ?_
                      change CW _ _ _ _ _ _
                      refine CW.cond rfl ?_ ?_
                      ·
                        intro hg9
                        have hg10 : decide ((limG 1 ((totG c) * (totG d))) = 0) = false := not_t hg9
                        have hq9 := of_decide_eq_false hg10
                        have hk : cascR c d = ([], (limG 1 (totG c * totG d))) := cascR_lim hv_c hv_d (by omega) (by omega)
                        have hk1 : (cascR c d).1 = [] := by rw [hk]
                        have hk2 : (cascR c d).2 = (limG 1 (totG c * totG d)) := by rw [hk]
                        have hk3 : (cascR c d).1.length = 0 := by rw [hk]; rfl
                        first
                        | (exfalso; omega)
                        | (
                          refine CW.seq ?_
                          rcases Bool.eq_false_or_eq_true (decide (((cascR c d).2) = (limG 1 ((totG c) * (totG d))))) with hg11 | hg11
                          ·
                            have hq10 := of_decide_eq_true hg11
                            first
                            | (exfalso; omega)
                            | (
                              refine CW.region ?_
                              refine RW.yl rfl rfl rfl (Yl.move rfl rfl) ?_
                              refine RW.yl rfl rfl rfl (Yl.move rfl rfl) ?_
                              refine RW.yl rfl rfl rfl (Yl.eqb (Yl.eql rfl rfl rfl) hg11) ?_
                              refine RW.yl rfl rfl rfl (Yl.move rfl rfl) ?_
                              refine RW.yl rfl rfl rfl (Yl.loadAgg (cs := [.slice ps1 (((cascR c d).1).length) cs1]) rfl rfl many24 (Blk.cells hK35)) ?_
                              refine RW.fn rfl rfl rfl (Yc.func #[.agg #[.slice ps1 (((cascR c d).1).length) cs1]] rfl ok18 (args1 rfl)) (c18 (hR10.wide (Nat.zero_le _) (by omega))) ?_
                              rintro _ w16 ⟨rfl, H13⟩
                              have hB16 := Bl.step hB15 H13
                              have hK36 := Blk.below hK33 H13
                              have hK37 := Blk.below hK34 H13
                              have hK38 := Blk.below hK35 H13
                              have hR11 := hR10.mono (kept_below H13 (by omega))
                              have hz13 := H13.size
                              refine RW.yl rfl rfl rfl (Yl.pickT rfl rfl rfl) ?_
                              refine RW.yl rfl rfl rfl (Yl.assign rfl rfl) ?_
                              refine RW.nil ?_
                              change CW _ _ _ _ _ _
                              refine CW.ret ?_
                              change FinQ _ _ _ _ _ _
                              refine fin1 (.inr rfl) rfl rfl ?_
                              exact ⟨_, rfl, bval (by first | rfl | exact decide_eq_true (by omega) | exact decide_eq_true (by assumption)), hB16⟩)
                          ·
                            have hq10 := of_decide_eq_false hg11
                            first
                            | (exfalso; omega)
                            | (
                              refine CW.region ?_
                              refine RW.yl rfl rfl rfl (Yl.move rfl rfl) ?_
                              refine RW.yl rfl rfl rfl (Yl.move rfl rfl) ?_
                              refine RW.yl rfl rfl rfl (Yl.eqb (Yl.eql rfl rfl rfl) hg11) ?_
                              refine RW.yl rfl rfl rfl (Yl.move rfl rfl) ?_
                              refine RW.skip rfl rfl rfl ?_
                              refine RW.skip rfl rfl rfl ?_
                              refine RW.yl rfl rfl rfl (Yl.pickF rfl rfl rfl) ?_
                              refine RW.yl rfl rfl rfl (Yl.assign rfl rfl) ?_
                              refine RW.nil ?_
                              change CW _ _ _ _ _ _
                              refine CW.ret ?_
                              change FinQ _ _ _ _ _ _
                              refine fin1 (.inr rfl) rfl rfl ?_
                              exact ⟨_, rfl, bval (by first | rfl | exact decide_eq_true (by omega) | exact decide_eq_true (by assumption)), hB15⟩))
                      ·
                        intro hg12
                        have hg13 : decide ((limG 1 ((totG c) * (totG d))) = 0) = true := not_f hg12
                        have hq12 := of_decide_eq_true hg13
                        have hk : cascR c d = ((cascT c d), 0) := cascR_ok hv_c hv_d (by omega) (by omega)
                        have hk1 : (cascR c d).1 = (cascT c d) := by rw [hk]
                        have hk2 : (cascR c d).2 = 0 := by rw [hk]
                        first
                        | (exfalso; omega)
                        | (
                          refine CW.skip ?_
                          change CW _ _ _ _ _ _
                          refine CW.seq ?_
                          rcases Bool.eq_false_or_eq_true (decide (((cascR c d).2) = 0)) with hg14 | hg14
                          ·
                            have hq13 := of_decide_eq_true hg14
                            first
                            | (exfalso; omega)
                            | (
                              refine CW.draw 10 rfl (Kp []) (by kernel_rfl) ?_
                              intro w17 H14
                              have hB17 := Bl.step hB15 H14
                              have hK39 := Blk.below hK33 H14
                              have hK40 := Blk.below hK34 H14
                              have hK41 := Blk.below hK35 H14
                              have hR12 := hR10.mono (kept_below H14 (by omega))
                              have hz14 := H14.size
                              have hS6 := Kp.refl [] w17
                              refine RH.take 0 rfl (by kernel_rfl) rfl rfl rfl hS6 (fun W18 hW18 => Yl.move rfl rfl) ?_
                              refine RH.take 1 rfl (by kernel_rfl) rfl rfl rfl hS6 (fun W19 hW19 => Yl.eqb (Yl.eql rfl rfl rfl) hg14) ?_
                              refine RH.take 2 rfl (by kernel_rfl) rfl rfl rfl hS6 (fun W20 hW20 => Yl.move rfl rfl) ?_
                              refine RH.take 3 rfl (by kernel_rfl) rfl rfl rfl hS6 (fun W21 hW21 => Yl.loadAgg (cs := [.slice ps1 (((cascR c d).1).length) cs1]) rfl rfl many24 (Blk.cells (Kp.blk hW21 hK41 (by simp)))) ?_
                              refine RH.take 4 rfl (by kernel_rfl) rfl rfl rfl hS6 (fun W22 hW22 => Yl.loadAgg (cs := [.slice p c.length cc]) rfl rfl many24 (Blk.cells (Kp.blk hW22 hK39 (by simp)))) ?_
                              refine RH.take 5 rfl (by kernel_rfl) rfl rfl rfl hS6 (fun W23 hW23 => Yl.loadAgg (cs := [.slice p2 d.length cd]) rfl rfl many24 (Blk.cells (Kp.blk hW23 hK40 (by simp)))) ?_
                              refine RH.one 6 (by kernel_rfl) ?_
                              refine RO.fn rfl rfl rfl rfl (Yc.func #[.agg #[.slice p c.length cc], .agg #[.slice p2 d.length cd]] rfl ok20 (args2 rfl rfl)) (c20 ((hv.mono (kept_from hB0 hB17 (Nat.le_refl _))).wide (Nat.zero_le _) (by omega)) ((hu.mono (kept_from hB0 hB17 (Nat.le_refl _))).wide (Nat.zero_le _) (by omega)) (validB_chanT hv_c) (validB_chanT hv_d) (by omega)) ?_
                              rintro _ w18 ⟨s2, rfl, hR13, H15⟩
                              obtain ⟨ps2, cs2, rfl, hl3⟩ := hR13.form
                              have hS7 := Kp.step hS6 H15
                              have hB18 := Bl.step hB17 H15
                              have hK42 := Blk.below hK39 H15
                              have hK43 := Blk.below hK40 H15
                              have hK44 := Blk.below hK41 H15
                              have hR14 := hR12.mono (kept_below H15 (by omega))
                              have hz15 := H15.size
                              refine ⟨hS7, ?_⟩
                              refine RH.one 7 (by kernel_rfl) ?_
                              refine RO.fn rfl rfl rfl rfl (Yc.func #[.agg #[.slice ps1 (((cascR c d).1).length) cs1], .agg #[.slice ps2 ((cascT c d).length) cs2]] rfl ok19 (args2 rfl rfl)) (c19 (hR14.wide (Nat.zero_le _) (by omega)) (hR13.wide (Nat.zero_le _) (by omega))) ?_
                              rintro _ w19 ⟨rfl, H16⟩
                              have hS8 := Kp.step hS7 H16
                              have hB19 := Bl.step hB18 H16
                              have hK45 := Blk.below hK42 H16
                              have hK46 := Blk.below hK43 H16
                              have hK47 := Blk.below hK44 H16
                              have hR15 := hR14.mono (kept_below H16 (by omega))
                              have hR16 := hR13.mono (kept_below H16 (by omega))
                              have hz16 := H16.size
                              refine ⟨hS8, ?_⟩
                              refine RH.take 8 rfl (by kernel_rfl) rfl rfl rfl hS8 (fun W26 hW26 => Yl.pickT rfl rfl rfl) ?_
                              refine RH.take 9 rfl (by kernel_rfl) rfl rfl rfl hS8 (fun W27 hW27 => Yl.assign rfl rfl) ?_
                              refine RH.done (by kernel_rfl) ?_
                              change CW _ _ _ _ _ _
                              refine CW.ret ?_
                              change FinQ _ _ _ _ _ _
                              refine fin1 (.inr rfl) rfl rfl ?_
                              exact ⟨_, rfl, bval (by first | rfl | exact decide_eq_true (by omega) | exact decide_eq_true (by assumption)), hB19⟩)
                          ·
                            have hq13 := of_decide_eq_false hg14
                            first
                            | (exfalso; omega)
                            | (
                              refine CW.draw 10 rfl (Kp []) (by kernel_rfl) ?_
                              intro w20 H17
                              have hB20 := Bl.step hB15 H17
                              have hK48 := Blk.below hK33 H17
                              have hK49 := Blk.below hK34 H17
                              have hK50 := Blk.below hK35 H17
                              have hR17 := hR10.mono (kept_below H17 (by omega))
                              have hz17 := H17.size
                              have hS9 := Kp.refl [] w20
                              refine RH.take 0 rfl (by kernel_rfl) rfl rfl rfl hS9 (fun W28 hW28 => Yl.move rfl rfl) ?_
                              refine RH.take 1 rfl (by kernel_rfl) rfl rfl rfl hS9 (fun W29 hW29 => Yl.eqb (Yl.eql rfl rfl rfl) hg14) ?_
                              refine RH.take 2 rfl (by kernel_rfl) rfl rfl rfl hS9 (fun W30 hW30 => Yl.move rfl rfl) ?_
                              refine RH.pass 3 rfl (by kernel_rfl) rfl rfl rfl hS9 ?_
                              refine RH.pass 4 rfl (by kernel_rfl) rfl rfl rfl hS9 ?_
                              refine RH.pass 5 rfl (by kernel_rfl) rfl rfl rfl hS9 ?_
                              refine RH.pass 6 rfl (by kernel_rfl) rfl rfl rfl hS9 ?_
                              refine RH.pass 7 rfl (by kernel_rfl) rfl rfl rfl hS9 ?_
                              refine RH.take 8 rfl (by kernel_rfl) rfl rfl rfl hS9 (fun W31 hW31 => Yl.pickF rfl rfl rfl) ?_
                              refine RH.take 9 rfl (by kernel_rfl) rfl rfl rfl hS9 (fun W32 hW32 => Yl.assign rfl rfl) ?_
                              refine RH.done (by kernel_rfl) ?_
                              change CW _ _ _ _ _ _
                              refine CW.ret ?_
                              change FinQ _ _ _ _ _ _
                              refine fin1 (.inr rfl) rfl rfl ?_
                              exact ⟨_, rfl, bval (by first | rfl | exact decide_eq_true (by omega) | exact decide_eq_true (by assumption)), hB20⟩)))
                  ·
                    intro hg15
                    have hq15 := of_decide_eq_false hg15
                    have hk : cascR c d = ([], 2) := cascR_len hv_c hv_d (by omega)
                    have hk1 : (cascR c d).1 = [] := by rw [hk]
                    have hk2 : (cascR c d).2 = 2 := by rw [hk]
                    have hk3 : (cascR c d).1.length = 0 := by rw [hk]; rfl
                    first
                    | (exfalso; omega)
                    | (
                      refine CW.skip ?_
                      change CW _ _ _ _ _ _
                      refine CW.seq ?_
                      refine CW.seq ?_
                      refine CW.region ?_
                      refine RW.yl rfl rfl rfl (Yl.move rfl rfl) ?_
                      refine RW.yl rfl rfl rfl (Yl.neq rfl rfl rfl) ?_
                      refine RW.nil ?_
                      change CW _ _ _ _ _ _
                      refine CW.cond rfl ?_ ?_
                      ·
                        intro hg16
                        have hg17 : decide (2 = 0) = false := not_t hg16
                        have hq17 := of_decide_eq_false hg17
                        first
                        | (exfalso; omega)
                        | (
                          refine CW.seq ?_
                          rcases Bool.eq_false_or_eq_true (decide (((cascR c d).2) = 2)) with hg18 | hg18
                          ·
                            have hq18 := of_decide_eq_true hg18
                            first
                            | (exfalso; omega)
                            | (
                              refine CW.region ?_
                              refine RW.yl rfl rfl rfl (Yl.move rfl rfl) ?_
                              refine RW.yl rfl rfl rfl (Yl.move rfl rfl) ?_
                              refine RW.yl rfl rfl rfl (Yl.eqb (Yl.eql rfl rfl rfl) hg18) ?_
                              refine RW.yl rfl rfl rfl (Yl.move rfl rfl) ?_
                              refine RW.yl rfl rfl rfl (Yl.loadAgg (cs := [.slice ps1 (((cascR c d).1).length) cs1]) rfl rfl many24 (Blk.cells hK23)) ?_
                              refine RW.fn rfl rfl rfl (Yc.func #[.agg #[.slice ps1 (((cascR c d).1).length) cs1]] rfl ok18 (args1 rfl)) (c18 (hR6.wide (Nat.zero_le _) (by omega))) ?_
                              rintro _ w21 ⟨rfl, H18⟩
                              have hB21 := Bl.step hB11 H18
                              have hK51 := Blk.below hK21 H18
                              have hK52 := Blk.below hK22 H18
                              have hK53 := Blk.below hK23 H18
                              have hR18 := hR6.mono (kept_below H18 (by omega))
                              have hz18 := H18.size
                              refine RW.yl rfl rfl rfl (Yl.pickT rfl rfl rfl) ?_
                              refine RW.yl rfl rfl rfl (Yl.assign rfl rfl) ?_
                              refine RW.nil ?_
                              change CW _ _ _ _ _ _
                              refine CW.ret ?_
                              change FinQ _ _ _ _ _ _
                              refine fin1 (.inr rfl) rfl rfl ?_
                              exact ⟨_, rfl, bval (by first | rfl | exact decide_eq_true (by omega) | exact decide_eq_true (by assumption)), hB21⟩)
                          ·
                            have hq18 := of_decide_eq_false hg18
                            first
                            | (exfalso; omega)
                            | (
                              refine CW.region ?_
                              refine RW.yl rfl rfl rfl (Yl.move rfl rfl) ?_
                              refine RW.yl rfl rfl rfl (Yl.move rfl rfl) ?_
                              refine RW.yl rfl rfl rfl (Yl.eqb (Yl.eql rfl rfl rfl) hg18) ?_
                              refine RW.yl rfl rfl rfl (Yl.move rfl rfl) ?_
                              refine RW.skip rfl rfl rfl ?_
                              refine RW.skip rfl rfl rfl ?_
                              refine RW.yl rfl rfl rfl (Yl.pickF rfl rfl rfl) ?_
                              refine RW.yl rfl rfl rfl (Yl.assign rfl rfl) ?_
                              refine RW.nil ?_
                              change CW _ _ _ _ _ _
                              refine CW.ret ?_
                              change FinQ _ _ _ _ _ _
                              refine fin1 (.inr rfl) rfl rfl ?_
                              exact ⟨_, rfl, bval (by first | rfl | exact decide_eq_true (by omega) | exact decide_eq_true (by assumption)), hB11⟩))
                      ·
                        intro hg19
                        have hg20 : decide (2 = 0) = true := not_f hg19
                        have hq20 := of_decide_eq_true hg20
                        first
                        | (exfalso; omega)
                        | (
                          refine CW.skip ?_
                          change CW _ _ _ _ _ _
                          refine CW.seq ?_
                          rcases Bool.eq_false_or_eq_true (decide (((cascR c d).2) = 0)) with hg21 | hg21
                          ·
                            have hq21 := of_decide_eq_true hg21
                            first
                            | (exfalso; omega)
                            | (
                              refine CW.draw 10 rfl (Kp []) (by kernel_rfl) ?_
                              intro w22 H19
                              have hB22 := Bl.step hB11 H19
                              have hK54 := Blk.below hK21 H19
                              have hK55 := Blk.below hK22 H19
                              have hK56 := Blk.below hK23 H19
                              have hR19 := hR6.mono (kept_below H19 (by omega))
                              have hz19 := H19.size
                              have hS10 := Kp.refl [] w22
                              refine RH.take 0 rfl (by kernel_rfl) rfl rfl rfl hS10 (fun W33 hW33 => Yl.move rfl rfl) ?_
                              refine RH.take 1 rfl (by kernel_rfl) rfl rfl rfl hS10 (fun W34 hW34 => Yl.eqb (Yl.eql rfl rfl rfl) hg21) ?_
                              refine RH.take 2 rfl (by kernel_rfl) rfl rfl rfl hS10 (fun W35 hW35 => Yl.move rfl rfl) ?_
                              refine RH.take 3 rfl (by kernel_rfl) rfl rfl rfl hS10 (fun W36 hW36 => Yl.loadAgg (cs := [.slice ps1 (((cascR c d).1).length) cs1]) rfl rfl many24 (Blk.cells (Kp.blk hW36 hK56 (by simp)))) ?_
                              refine RH.take 4 rfl (by kernel_rfl) rfl rfl rfl hS10 (fun W37 hW37 => Yl.loadAgg (cs := [.slice p c.length cc]) rfl rfl many24 (Blk.cells (Kp.blk hW37 hK54 (by simp)))) ?_
                              refine RH.take 5 rfl (by kernel_rfl) rfl rfl rfl hS10 (fun W38 hW38 => Yl.loadAgg (cs := [.slice p2 d.length cd]) rfl rfl many24 (Blk.cells (Kp.blk hW38 hK55 (by simp)))) ?_
                              refine RH.one 6 (by kernel_rfl) ?_
                              refine RO.fn rfl rfl rfl rfl (Yc.func #[.agg #[.slice p c.length cc], .agg #[.slice p2 d.length cd]] rfl ok20 (args2 rfl rfl)) (c20 ((hv.mono (kept_from hB0 hB22 (Nat.le_refl _))).wide (Nat.zero_le _) (by omega)) ((hu.mono (kept_from hB0 hB22 (Nat.le_refl _))).wide (Nat.zero_le _) (by omega)) (validB_chanT hv_c) (validB_chanT hv_d) (by omega)) ?_
                              rintro _ w23 ⟨s3, rfl, hR20, H20⟩
                              obtain ⟨ps3, cs3, rfl, hl4⟩ := hR20.form
                              have hS11 := Kp.step hS10 H20
                              have hB23 := Bl.step hB22 H20
                              have hK57 := Blk.below hK54 H20
                              have hK58 := Blk.below hK55 H20
                              have hK59 := Blk.below hK56 H20
                              have hR21 := hR19.mono (kept_below H20 (by omega))
                              have hz20 := H20.size
                              refine ⟨hS11, ?_⟩
                              refine RH.one 7 (by kernel_rfl) ?_
                              refine RO.fn rfl rfl rfl rfl (Yc.func #[.agg #[.slice ps1 (((cascR c d).1).length) cs1], .agg #[.slice ps3 ((cascT c d).length) cs3]] rfl ok19 (args2 rfl rfl)) (c19 (hR21.wide (Nat.zero_le _) (by omega)) (hR20.wide (Nat.zero_le _) (by omega))) ?_
                              rintro _ w24 ⟨rfl, H21⟩
                              have hS12 := Kp.step hS11 H21
                              have hB24 := Bl.step hB23 H21
                              have hK60 := Blk.below hK57 H21
                              have hK61 := Blk.below hK58 H21
                              have hK62 := Blk.below hK59 H21
                              have hR22 := hR21.mono (kept_below H21 (by omega))
                              have hR23 := hR20.mono (kept_below H21 (by omega))
                              have hz21 := H21.size
                              refine ⟨hS12, ?_⟩
                              refine RH.take 8 rfl (by kernel_rfl) rfl rfl rfl hS12 (fun W41 hW41 => Yl.pickT rfl rfl rfl) ?_
                              refine RH.take 9 rfl (by kernel_rfl) rfl rfl rfl hS12 (fun W42 hW42 => Yl.assign rfl rfl) ?_
                              refine RH.done (by kernel_rfl) ?_
                              change CW _ _ _ _ _ _
                              refine CW.ret ?_
                              change FinQ _ _ _ _ _ _
                              refine fin1 (.inr rfl) rfl rfl ?_
                              exact ⟨_, rfl, bval (by first | rfl | exact decide_eq_true (by omega) | exact decide_eq_true (by assumption)), hB24⟩)
                          ·
                            have hq21 := of_decide_eq_false hg21
                            first
                            | (exfalso; omega)
                            | (
                              refine CW.draw 10 rfl (Kp []) (by kernel_rfl) ?_
                              intro w25 H22
                              have hB25 := Bl.step hB11 H22
                              have hK63 := Blk.below hK21 H22
                              have hK64 := Blk.below hK22 H22
                              have hK65 := Blk.below hK23 H22
                              have hR24 := hR6.mono (kept_below H22 (by omega))
                              have hz22 := H22.size
                              have hS13 := Kp.refl [] w25
                              refine RH.take 0 rfl (by kernel_rfl) rfl rfl rfl hS13 (fun W43 hW43 => Yl.move rfl rfl) ?_
                              refine RH.take 1 rfl (by kernel_rfl) rfl rfl rfl hS13 (fun W44 hW44 => Yl.eqb (Yl.eql rfl rfl rfl) hg21) ?_
                              refine RH.take 2 rfl (by kernel_rfl) rfl rfl rfl hS13 (fun W45 hW45 => Yl.move rfl rfl) ?_
                              refine RH.pass 3 rfl (by kernel_rfl) rfl rfl rfl hS13 ?_
                              refine RH.pass 4 rfl (by kernel_rfl) rfl rfl rfl hS13 ?_
                              refine RH.pass 5 rfl (by kernel_rfl) rfl rfl rfl hS13 ?_
                              refine RH.pass 6 rfl (by kernel_rfl) rfl rfl rfl hS13 ?_
                              refine RH.pass 7 rfl (by kernel_rfl) rfl rfl rfl hS13 ?_
                              refine RH.take 8 rfl (by kernel_rfl) rfl rfl rfl hS13 (fun W46 hW46 => Yl.pickF rfl rfl rfl) ?_
                              refine RH.take 9 rfl (by kernel_rfl) rfl rfl rfl hS13 (fun W47 hW47 => Yl.assign rfl rfl) ?_
                              refine RH.done (by kernel_rfl) ?_
                              change CW _ _ _ _ _ _
                              refine CW.ret ?_
                              change FinQ _ _ _ _ _ _
                              refine fin1 (.inr rfl) rfl rfl ?_
                              exact ⟨_, rfl, bval (by first | rfl | exact decide_eq_true (by omega) | exact decide_eq_true (by assumption)), hB25⟩))))
              ·
                intro hg22
                have hk : cascR c d = ([], 1) := cascR_bad (by rw [hg22]; first | rfl | exact Bool.and_false _)
                have hk1 : (cascR c d).1 = [] := by rw [hk]
                have hk2 : (cascR c d).2 = 1 := by rw [hk]
                have hk3 : (cascR c d).1.length = 0 := by rw [hk]; rfl
                first
                | (exfalso; omega)
                | (
                  refine CW.skip ?_
                  change CW _ _ _ _ _ _
                  refine CW.seq ?_
                  refine CW.seq ?_
                  refine CW.region ?_
                  refine RW.yl rfl rfl rfl (Yl.move rfl rfl) ?_
                  refine RW.yl rfl rfl rfl (Yl.neq rfl rfl rfl) ?_
                  refine RW.nil ?_
                  change CW _ _ _ _ _ _
                  refine CW.cond rfl ?_ ?_
                  ·
                    intro hg23
                    have hg24 : decide (1 = 0) = false := not_t hg23
                    have hq24 := of_decide_eq_false hg24
                    first
                    | (exfalso; omega)
                    | (
                      refine CW.seq ?_
                      rcases Bool.eq_false_or_eq_true (decide (((cascR c d).2) = 1)) with hg25 | hg25
                      ·
                        have hq25 := of_decide_eq_true hg25
                        first
                        | (exfalso; omega)
                        | (
                          refine CW.region ?_
                          refine RW.yl rfl rfl rfl (Yl.move rfl rfl) ?_
                          refine RW.yl rfl rfl rfl (Yl.move rfl rfl) ?_
                          refine RW.yl rfl rfl rfl (Yl.eqb (Yl.eql rfl rfl rfl) hg25) ?_
                          refine RW.yl rfl rfl rfl (Yl.move rfl rfl) ?_
                          refine RW.yl rfl rfl rfl (Yl.loadAgg (cs := [.slice ps1 (((cascR c d).1).length) cs1]) rfl rfl many24 (Blk.cells hK20)) ?_
                          refine RW.fn rfl rfl rfl (Yc.func #[.agg #[.slice ps1 (((cascR c d).1).length) cs1]] rfl ok18 (args1 rfl)) (c18 (hR5.wide (Nat.zero_le _) (by omega))) ?_
                          rintro _ w26 ⟨rfl, H23⟩
                          have hB26 := Bl.step hB10 H23
                          have hK66 := Blk.below hK18 H23
                          have hK67 := Blk.below hK19 H23
                          have hK68 := Blk.below hK20 H23
                          have hR25 := hR5.mono (kept_below H23 (by omega))
                          have hz23 := H23.size
                          refine RW.yl rfl rfl rfl (Yl.pickT rfl rfl rfl) ?_
                          refine RW.yl rfl rfl rfl (Yl.assign rfl rfl) ?_
                          refine RW.nil ?_
                          change CW _ _ _ _ _ _
                          refine CW.ret ?_
                          change FinQ _ _ _ _ _ _
                          refine fin1 (.inr rfl) rfl rfl ?_
                          exact ⟨_, rfl, bval (by first | rfl | exact decide_eq_true (by omega) | exact decide_eq_true (by assumption)), hB26⟩)
                      ·
                        have hq25 := of_decide_eq_false hg25
                        first
                        | (exfalso; omega)
                        | (
                          refine CW.region ?_
                          refine RW.yl rfl rfl rfl (Yl.move rfl rfl) ?_
                          refine RW.yl rfl rfl rfl (Yl.move rfl rfl) ?_
                          refine RW.yl rfl rfl rfl (Yl.eqb (Yl.eql rfl rfl rfl) hg25) ?_
                          refine RW.yl rfl rfl rfl (Yl.move rfl rfl) ?_
                          refine RW.skip rfl rfl rfl ?_
                          refine RW.skip rfl rfl rfl ?_
                          refine RW.yl rfl rfl rfl (Yl.pickF rfl rfl rfl) ?_
                          refine RW.yl rfl rfl rfl (Yl.assign rfl rfl) ?_
                          refine RW.nil ?_
                          change CW _ _ _ _ _ _
                          refine CW.ret ?_
                          change FinQ _ _ _ _ _ _
                          refine fin1 (.inr rfl) rfl rfl ?_
                          exact ⟨_, rfl, bval (by first | rfl | exact decide_eq_true (by omega) | exact decide_eq_true (by assumption)), hB10⟩))
                  ·
                    intro hg26
                    have hg27 : decide (1 = 0) = true := not_f hg26
                    have hq27 := of_decide_eq_true hg27
                    first
                    | (exfalso; omega)
                    | (
                      refine CW.skip ?_
                      change CW _ _ _ _ _ _
                      refine CW.seq ?_
                      rcases Bool.eq_false_or_eq_true (decide (((cascR c d).2) = 0)) with hg28 | hg28
                      ·
                        have hq28 := of_decide_eq_true hg28
                        first
                        | (exfalso; omega)
                        | (
                          refine CW.draw 10 rfl (Kp []) (by kernel_rfl) ?_
                          intro w27 H24
                          have hB27 := Bl.step hB10 H24
                          have hK69 := Blk.below hK18 H24
                          have hK70 := Blk.below hK19 H24
                          have hK71 := Blk.below hK20 H24
                          have hR26 := hR5.mono (kept_below H24 (by omega))
                          have hz24 := H24.size
                          have hS14 := Kp.refl [] w27
                          refine RH.take 0 rfl (by kernel_rfl) rfl rfl rfl hS14 (fun W48 hW48 => Yl.move rfl rfl) ?_
                          refine RH.take 1 rfl (by kernel_rfl) rfl rfl rfl hS14 (fun W49 hW49 => Yl.eqb (Yl.eql rfl rfl rfl) hg28) ?_
                          refine RH.take 2 rfl (by kernel_rfl) rfl rfl rfl hS14 (fun W50 hW50 => Yl.move rfl rfl) ?_
                          refine RH.take 3 rfl (by kernel_rfl) rfl rfl rfl hS14 (fun W51 hW51 => Yl.loadAgg (cs := [.slice ps1 (((cascR c d).1).length) cs1]) rfl rfl many24 (Blk.cells (Kp.blk hW51 hK71 (by simp)))) ?_
                          refine RH.take 4 rfl (by kernel_rfl) rfl rfl rfl hS14 (fun W52 hW52 => Yl.loadAgg (cs := [.slice p c.length cc]) rfl rfl many24 (Blk.cells (Kp.blk hW52 hK69 (by simp)))) ?_
                          refine RH.take 5 rfl (by kernel_rfl) rfl rfl rfl hS14 (fun W53 hW53 => Yl.loadAgg (cs := [.slice p2 d.length cd]) rfl rfl many24 (Blk.cells (Kp.blk hW53 hK70 (by simp)))) ?_
                          refine RH.one 6 (by kernel_rfl) ?_
                          refine RO.fn rfl rfl rfl rfl (Yc.func #[.agg #[.slice p c.length cc], .agg #[.slice p2 d.length cd]] rfl ok20 (args2 rfl rfl)) (c20 ((hv.mono (kept_from hB0 hB27 (Nat.le_refl _))).wide (Nat.zero_le _) (by omega)) ((hu.mono (kept_from hB0 hB27 (Nat.le_refl _))).wide (Nat.zero_le _) (by omega)) (validB_chanT hv_c) (validB_chanT hv_d) (by omega)) ?_
                          rintro _ w28 ⟨s4, rfl, hR27, H25⟩
                          obtain ⟨ps4, cs4, rfl, hl5⟩ := hR27.form
                          have hS15 := Kp.step hS14 H25
                          have hB28 := Bl.step hB27 H25
                          have hK72 := Blk.below hK69 H25
                          have hK73 := Blk.below hK70 H25
                          have hK74 := Blk.below hK71 H25
                          have hR28 := hR26.mono (kept_below H25 (by omega))
                          have hz25 := H25.size
                          refine ⟨hS15, ?_⟩
                          refine RH.one 7 (by kernel_rfl) ?_
                          refine RO.fn rfl rfl rfl rfl (Yc.func #[.agg #[.slice ps1 (((cascR c d).1).length) cs1], .agg #[.slice ps4 ((cascT c d).length) cs4]] rfl ok19 (args2 rfl rfl)) (c19 (hR28.wide (Nat.zero_le _) (by omega)) (hR27.wide (Nat.zero_le _) (by omega))) ?_
                          rintro _ w29 ⟨rfl, H26⟩
                          have hS16 := Kp.step hS15 H26
                          have hB29 := Bl.step hB28 H26
                          have hK75 := Blk.below hK72 H26
                          have hK76 := Blk.below hK73 H26
                          have hK77 := Blk.below hK74 H26
                          have hR29 := hR28.mono (kept_below H26 (by omega))
                          have hR30 := hR27.mono (kept_below H26 (by omega))
                          have hz26 := H26.size
                          refine ⟨hS16, ?_⟩
                          refine RH.take 8 rfl (by kernel_rfl) rfl rfl rfl hS16 (fun W56 hW56 => Yl.pickT rfl rfl rfl) ?_
                          refine RH.take 9 rfl (by kernel_rfl) rfl rfl rfl hS16 (fun W57 hW57 => Yl.assign rfl rfl) ?_
                          refine RH.done (by kernel_rfl) ?_
                          change CW _ _ _ _ _ _
                          refine CW.ret ?_
                          change FinQ _ _ _ _ _ _
                          refine fin1 (.inr rfl) rfl rfl ?_
                          exact ⟨_, rfl, bval (by first | rfl | exact decide_eq_true (by omega) | exact decide_eq_true (by assumption)), hB29⟩)
                      ·
                        have hq28 := of_decide_eq_false hg28
                        first
                        | (exfalso; omega)
                        | (
                          refine CW.draw 10 rfl (Kp []) (by kernel_rfl) ?_
                          intro w30 H27
                          have hB30 := Bl.step hB10 H27
                          have hK78 := Blk.below hK18 H27
                          have hK79 := Blk.below hK19 H27
                          have hK80 := Blk.below hK20 H27
                          have hR31 := hR5.mono (kept_below H27 (by omega))
                          have hz27 := H27.size
                          have hS17 := Kp.refl [] w30
                          refine RH.take 0 rfl (by kernel_rfl) rfl rfl rfl hS17 (fun W58 hW58 => Yl.move rfl rfl) ?_
                          refine RH.take 1 rfl (by kernel_rfl) rfl rfl rfl hS17 (fun W59 hW59 => Yl.eqb (Yl.eql rfl rfl rfl) hg28) ?_
                          refine RH.take 2 rfl (by kernel_rfl) rfl rfl rfl hS17 (fun W60 hW60 => Yl.move rfl rfl) ?_
                          refine RH.pass 3 rfl (by kernel_rfl) rfl rfl rfl hS17 ?_
                          refine RH.pass 4 rfl (by kernel_rfl) rfl rfl rfl hS17 ?_
                          refine RH.pass 5 rfl (by kernel_rfl) rfl rfl rfl hS17 ?_
                          refine RH.pass 6 rfl (by kernel_rfl) rfl rfl rfl hS17 ?_
                          refine RH.pass 7 rfl (by kernel_rfl) rfl rfl rfl hS17 ?_
                          refine RH.take 8 rfl (by kernel_rfl) rfl rfl rfl hS17 (fun W61 hW61 => Yl.pickF rfl rfl rfl) ?_
                          refine RH.take 9 rfl (by kernel_rfl) rfl rfl rfl hS17 (fun W62 hW62 => Yl.assign rfl rfl) ?_
                          refine RH.done (by kernel_rfl) ?_
                          change CW _ _ _ _ _ _
                          refine CW.ret ?_
                          change FinQ _ _ _ _ _ _
                          refine fin1 (.inr rfl) rfl rfl ?_
                          exact ⟨_, rfl, bval (by first | rfl | exact decide_eq_true (by omega) | exact decide_eq_true (by assumption)), hB30⟩))))
          ·
            have hk : cascR c d = ([], 1) := cascR_bad (by rw [hg6]; first | rfl | exact Bool.and_false _)
            have hk1 : (cascR c d).1 = [] := by rw [hk]
            have hk2 : (cascR c d).2 = 1 := by rw [hk]
            have hk3 : (cascR c d).1.length = 0 := by rw [hk]; rfl
            first
            | (exfalso; omega)
            | (
              refine CW.region ?_
              refine RW.yl rfl rfl rfl (Yl.loadAgg (cs := [.slice p c.length cc]) rfl rfl many24 (Blk.cells hK12)) ?_
              refine RW.fn rfl rfl rfl (Yc.func #[.agg #[.slice p c.length cc]] rfl ok15 (args1 rfl)) (c15 ((hv.mono (kept_from hB0 hB8 (Nat.le_refl _))).wide (Nat.zero_le _) (by omega))) ?_
              rintro _ w31 ⟨rfl, H28⟩
              have hB31 := Bl.step hB8 H28
              have hK81 := Blk.below hK12 H28
              have hK82 := Blk.below hK13 H28
              have hK83 := Blk.below hK14 H28
              have hR32 := hR3.mono (kept_below H28 (by omega))
              have hz28 := H28.size
              rw [hg6]
              refine RW.yl rfl rfl rfl (Yl.move rfl rfl) ?_
              refine RW.skip rfl rfl rfl ?_
              refine RW.skip rfl rfl rfl ?_
              refine RW.yl rfl rfl rfl (Yl.pickF rfl rfl rfl) ?_
              refine RW.nil ?_
              change CW _ _ _ _ _ _
              refine CW.condF rfl ?_
              refine CW.skip ?_
              change CW _ _ _ _ _ _
              refine CW.seq ?_
              refine CW.seq ?_
              refine CW.region ?_
              refine RW.yl rfl rfl rfl (Yl.move rfl rfl) ?_
              refine RW.yl rfl rfl rfl (Yl.neq rfl rfl rfl) ?_
              refine RW.nil ?_
              change CW _ _ _ _ _ _
              refine CW.cond rfl ?_ ?_
              ·
                intro hg29
                have hg30 : decide (1 = 0) = false := not_t hg29
                have hq30 := of_decide_eq_false hg30
                first
                | (exfalso; omega)
                | (
                  refine CW.seq ?_
                  rcases Bool.eq_false_or_eq_true (decide (((cascR c d).2) = 1)) with hg31 | hg31
                  ·
                    have hq31 := of_decide_eq_true hg31
                    first
                    | (exfalso; omega)
                    | (
                      refine CW.region ?_
                      refine RW.yl rfl rfl rfl (Yl.move rfl rfl) ?_
                      refine RW.yl rfl rfl rfl (Yl.move rfl rfl) ?_
                      refine RW.yl rfl rfl rfl (Yl.eqb (Yl.eql rfl rfl rfl) hg31) ?_
                      refine RW.yl rfl rfl rfl (Yl.move rfl rfl) ?_
                      refine RW.yl rfl rfl rfl (Yl.loadAgg (cs := [.slice ps1 (((cascR c d).1).length) cs1]) rfl rfl many24 (Blk.cells hK83)) ?_
                      refine RW.fn rfl rfl rfl (Yc.func #[.agg #[.slice ps1 (((cascR c d).1).length) cs1]] rfl ok18 (args1 rfl)) (c18 (hR32.wide (Nat.zero_le _) (by omega))) ?_
                      rintro _ w32 ⟨rfl, H29⟩
                      have hB32 := Bl.step hB31 H29
                      have hK84 := Blk.below hK81 H29
                      have hK85 := Blk.below hK82 H29
                      have hK86 := Blk.below hK83 H29
                      have hR33 := hR32.mono (kept_below H29 (by omega))
                      have hz29 := H29.size
                      refine RW.yl rfl rfl rfl (Yl.pickT rfl rfl rfl) ?_
                      refine RW.yl rfl rfl rfl (Yl.assign rfl rfl) ?_
                      refine RW.nil ?_
                      change CW _ _ _ _ _ _
                      refine CW.ret ?_
                      change FinQ _ _ _ _ _ _
                      refine fin1 (.inr rfl) rfl rfl ?_
                      exact ⟨_, rfl, bval (by first | rfl | exact decide_eq_true (by omega) | exact decide_eq_true (by assumption)), hB32⟩)
                  ·
                    have hq31 := of_decide_eq_false hg31
                    first
                    | (exfalso; omega)
                    | (
                      refine CW.region ?_
                      refine RW.yl rfl rfl rfl (Yl.move rfl rfl) ?_
                      refine RW.yl rfl rfl rfl (Yl.move rfl rfl) ?_
                      refine RW.yl rfl rfl rfl (Yl.eqb (Yl.eql rfl rfl rfl) hg31) ?_
                      refine RW.yl rfl rfl rfl (Yl.move rfl rfl) ?_
                      refine RW.skip rfl rfl rfl ?_
                      refine RW.skip rfl rfl rfl ?_
                      refine RW.yl rfl rfl rfl (Yl.pickF rfl rfl rfl) ?_
                      refine RW.yl rfl rfl rfl (Yl.assign rfl rfl) ?_
                      refine RW.nil ?_
                      change CW _ _ _ _ _ _
                      refine CW.ret ?_
                      change FinQ _ _ _ _ _ _
                      refine fin1 (.inr rfl) rfl rfl ?_
                      exact ⟨_, rfl, bval (by first | rfl | exact decide_eq_true (by omega) | exact decide_eq_true (by assumption)), hB31⟩))
              ·
                intro hg32
                have hg33 : decide (1 = 0) = true := not_f hg32
                have hq33 := of_decide_eq_true hg33
                first
                | (exfalso; omega)
                | (
                  refine CW.skip ?_
                  change CW _ _ _ _ _ _
                  refine CW.seq ?_
                  rcases Bool.eq_false_or_eq_true (decide (((cascR c d).2) = 0)) with hg34 | hg34
                  ·
                    have hq34 := of_decide_eq_true hg34
                    first
                    | (exfalso; omega)
                    | (
                      refine CW.draw 10 rfl (Kp []) (by kernel_rfl) ?_
                      intro w33 H30
                      have hB33 := Bl.step hB31 H30
                      have hK87 := Blk.below hK81 H30
                      have hK88 := Blk.below hK82 H30
                      have hK89 := Blk.below hK83 H30
                      have hR34 := hR32.mono (kept_below H30 (by omega))
                      have hz30 := H30.size
                      have hS18 := Kp.refl [] w33
                      refine RH.take 0 rfl (by kernel_rfl) rfl rfl rfl hS18 (fun W63 hW63 => Yl.move rfl rfl) ?_
                      refine RH.take 1 rfl (by kernel_rfl) rfl rfl rfl hS18 (fun W64 hW64 => Yl.eqb (Yl.eql rfl rfl rfl) hg34) ?_
                      refine RH.take 2 rfl (by kernel_rfl) rfl rfl rfl hS18 (fun W65 hW65 => Yl.move rfl rfl) ?_
                      refine RH.take 3 rfl (by kernel_rfl) rfl rfl rfl hS18 (fun W66 hW66 => Yl.loadAgg (cs := [.slice ps1 (((cascR c d).1).length) cs1]) rfl rfl many24 (Blk.cells (Kp.blk hW66 hK89 (by simp)))) ?_
                      refine RH.take 4 rfl (by kernel_rfl) rfl rfl rfl hS18 (fun W67 hW67 => Yl.loadAgg (cs := [.slice p c.length cc]) rfl rfl many24 (Blk.cells (Kp.blk hW67 hK87 (by simp)))) ?_
                      refine RH.take 5 rfl (by kernel_rfl) rfl rfl rfl hS18 (fun W68 hW68 => Yl.loadAgg (cs := [.slice p2 d.length cd]) rfl rfl many24 (Blk.cells (Kp.blk hW68 hK88 (by simp)))) ?_
                      refine RH.one 6 (by kernel_rfl) ?_
                      refine RO.fn rfl rfl rfl rfl (Yc.func #[.agg #[.slice p c.length cc], .agg #[.slice p2 d.length cd]] rfl ok20 (args2 rfl rfl)) (c20 ((hv.mono (kept_from hB0 hB33 (Nat.le_refl _))).wide (Nat.zero_le _) (by omega)) ((hu.mono (kept_from hB0 hB33 (Nat.le_refl _))).wide (Nat.zero_le _) (by omega)) (validB_chanT hv_c) (validB_chanT hv_d) (by omega)) ?_
                      rintro _ w34 ⟨s5, rfl, hR35, H31⟩
                      obtain ⟨ps5, cs5, rfl, hl6⟩ := hR35.form
                      have hS19 := Kp.step hS18 H31
                      have hB34 := Bl.step hB33 H31
                      have hK90 := Blk.below hK87 H31
                      have hK91 := Blk.below hK88 H31
                      have hK92 := Blk.below hK89 H31
                      have hR36 := hR34.mono (kept_below H31 (by omega))
                      have hz31 := H31.size
                      refine ⟨hS19, ?_⟩
                      refine RH.one 7 (by kernel_rfl) ?_
                      refine RO.fn rfl rfl rfl rfl (Yc.func #[.agg #[.slice ps1 (((cascR c d).1).length) cs1], .agg #[.slice ps5 ((cascT c d).length) cs5]] rfl ok19 (args2 rfl rfl)) (c19 (hR36.wide (Nat.zero_le _) (by omega)) (hR35.wide (Nat.zero_le _) (by omega))) ?_
                      rintro _ w35 ⟨rfl, H32⟩
                      have hS20 := Kp.step hS19 H32
                      have hB35 := Bl.step hB34 H32
                      have hK93 := Blk.below hK90 H32
                      have hK94 := Blk.below hK91 H32
                      have hK95 := Blk.below hK92 H32
                      have hR37 := hR36.mono (kept_below H32 (by omega))
                      have hR38 := hR35.mono (kept_below H32 (by omega))
                      have hz32 := H32.size
                      refine ⟨hS20, ?_⟩
                      refine RH.take 8 rfl (by kernel_rfl) rfl rfl rfl hS20 (fun W71 hW71 => Yl.pickT rfl rfl rfl) ?_
                      refine RH.take 9 rfl (by kernel_rfl) rfl rfl rfl hS20 (fun W72 hW72 => Yl.assign rfl rfl) ?_
                      refine RH.done (by kernel_rfl) ?_
                      change CW _ _ _ _ _ _
                      refine CW.ret ?_
                      change FinQ _ _ _ _ _ _
                      refine fin1 (.inr rfl) rfl rfl ?_
                      exact ⟨_, rfl, bval (by first | rfl | exact decide_eq_true (by omega) | exact decide_eq_true (by assumption)), hB35⟩)
                  ·
                    have hq34 := of_decide_eq_false hg34
                    first
                    | (exfalso; omega)
                    | (
                      refine CW.draw 10 rfl (Kp []) (by kernel_rfl) ?_
                      intro w36 H33
                      have hB36 := Bl.step hB31 H33
                      have hK96 := Blk.below hK81 H33
                      have hK97 := Blk.below hK82 H33
                      have hK98 := Blk.below hK83 H33
                      have hR39 := hR32.mono (kept_below H33 (by omega))
                      have hz33 := H33.size
                      have hS21 := Kp.refl [] w36
                      refine RH.take 0 rfl (by kernel_rfl) rfl rfl rfl hS21 (fun W73 hW73 => Yl.move rfl rfl) ?_
                      refine RH.take 1 rfl (by kernel_rfl) rfl rfl rfl hS21 (fun W74 hW74 => Yl.eqb (Yl.eql rfl rfl rfl) hg34) ?_
                      refine RH.take 2 rfl (by kernel_rfl) rfl rfl rfl hS21 (fun W75 hW75 => Yl.move rfl rfl) ?_
                      refine RH.pass 3 rfl (by kernel_rfl) rfl rfl rfl hS21 ?_
                      refine RH.pass 4 rfl (by kernel_rfl) rfl rfl rfl hS21 ?_
                      refine RH.pass 5 rfl (by kernel_rfl) rfl rfl rfl hS21 ?_
                      refine RH.pass 6 rfl (by kernel_rfl) rfl rfl rfl hS21 ?_
                      refine RH.pass 7 rfl (by kernel_rfl) rfl rfl rfl hS21 ?_
                      refine RH.take 8 rfl (by kernel_rfl) rfl rfl rfl hS21 (fun W76 hW76 => Yl.pickF rfl rfl rfl) ?_
                      refine RH.take 9 rfl (by kernel_rfl) rfl rfl rfl hS21 (fun W77 hW77 => Yl.assign rfl rfl) ?_
                      refine RH.done (by kernel_rfl) ?_
                      change CW _ _ _ _ _ _
                      refine CW.ret ?_
                      change FinQ _ _ _ _ _ _
                      refine fin1 (.inr rfl) rfl rfl ?_
                      exact ⟨_, rfl, bval (by first | rfl | exact decide_eq_true (by omega) | exact decide_eq_true (by assumption)), hB36⟩)))))
  ·
    first
    | (exfalso; omega)
    | (
      refine CW.region ?_
      refine RW.yl rfl rfl rfl (Yl.loadAgg (cs := [.slice p c.length cc]) rfl rfl many24 (Blk.cells hK2)) ?_
      refine RW.fn rfl rfl rfl (Yc.func #[.agg #[.slice p c.length cc], .int .i64 20] rfl ok13 (args2 rfl rfl)) (c13 ((hv.mono (kept_from hB0 hB3 (Nat.le_refl _))).wide (Nat.zero_le _) (by omega))) ?_
      rintro _ w37 ⟨rfl, H34⟩
      have hB37 := Bl.step hB3 H34
      have hK99 := Blk.below hK2 H34
      have hK100 := Blk.below hK3 H34
      have hz34 := H34.size
      rw [hg1]
      refine RW.yl rfl rfl rfl (Yl.not rfl rfl) ?_
      refine RW.yl rfl rfl rfl (Yl.move rfl rfl) ?_
      refine RW.skip rfl rfl rfl ?_
      refine RW.skip rfl rfl rfl ?_
      refine RW.skip rfl rfl rfl ?_
      refine RW.yl rfl rfl rfl (Yl.pickT rfl rfl rfl) ?_
      refine RW.nil ?_
      change CW _ _ _ _ _ _
      refine CW.condT rfl ?_
      refine CW.seq ?_
      refine CW.region ?_
      refine RW.yl rfl rfl rfl (Yl.assign rfl rfl) ?_
      refine RW.nil ?_
      change CW _ _ _ _ _ _
      refine CW.ret ?_
      change FinQ _ _ _ _ _ _
      refine fin1 (.inr rfl) rfl rfl ?_
      exact ⟨_, rfl, bval (by first | rfl | exact decide_eq_true (by omega) | exact decide_eq_true (by assumption)), hB37⟩)

end Go.Proofs.Ytodeffidnipelaa
