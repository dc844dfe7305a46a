/- ComposeParallels. -/
import Derived.Test.YtodeffidnipelaaT9
namespace Go.Proofs.Ytodeffidnipelaa
open Go.RowKit Go.Ev

theorem lpairG_zero {c d : List (List Int)} (h : lpairG c d = 0) : validB c = true ∧ validB d = true ∧ c.length = d.length := by
  unfold lpairG at h
  by_cases hb : (validB c && validB d) = true
  · rw [if_pos hb] at h
    by_cases hl : c.length = d.length
    · simp only [Bool.and_eq_true] at hb
      exact ⟨hb.1, hb.2, hl⟩
    · rw [if_neg hl] at h; omega
  · rw [if_neg hb] at h; omega
theorem parR_bad {c d : List (List Int)} (h : ¬ lpairG c d = 0) : parR c d = ([], lpairG c d) := by
  unfold lpairG at h ⊢
  by_cases hb : (validB c && validB d) = true
  · rw [if_pos hb] at h ⊢
    by_cases hl : c.length = d.length
    · rw [if_pos hl] at h; omega
    · simp only [Bool.and_eq_true] at hb
      rw [if_neg hl]
      unfold parR
      rw [pairG_ok hb.1 hb.2, if_pos rfl, if_neg (by omega)]
  · rw [if_neg hb]
    have h1 : pairG c d = 1 := by unfold pairG; rw [if_neg hb]
    unfold parR
    rw [h1]; rfl
theorem parR_ok {c d : List (List Int)} (hc : validB c = true) (hd : validB d = true) (hl : c.length = d.length) (h : limG (((c[0]!).length * (d[0]!).length : Nat) : Int) (totG c * totG d) = 0) : parR c d = (parT c d, 0) := by
  unfold parR
  rw [pairG_ok hc hd, if_pos rfl, if_pos (by omega), if_pos h]; rfl
theorem parR_lim {c d : List (List Int)} (hc : validB c = true) (hd : validB d = true) (hl : c.length = d.length) (h : ¬ limG (((c[0]!).length * (d[0]!).length : Nat) : Int) (totG c * totG d) = 0) : parR c d = ([], limG (((c[0]!).length * (d[0]!).length : Nat) : Int) (totG c * totG d)) := by
  unfold parR
  rw [pairG_ok hc hd, if_pos rfl, if_pos (by omega), if_neg h]
theorem ok22 : fnOk Try.prog 22 := ⟨_, Try.func22, by kernel_rfl, rfl⟩
theorem ok23 : fnOk Try.prog 23 := ⟨_, Try.func23, by kernel_rfl, rfl⟩
theorem c4 {w : World} {v u : Value} {c d : List (List Int)} (hv : RRows 0 w.heap.size w v c) (hu : RRows 0 w.heap.size w u d) :
    Calls Try.prog 4 #[.agg #[v], .agg #[u]] w (Ret fun r w' => r = .bool true ∧ Below w.heap.size w w') := by
  obtain ⟨p, cc, rfl, hl⟩ := hv.form
  obtain ⟨p2, cd, rfl, hl2⟩ := hu.form
  have hB0 : Below w.heap.size w w := Below.refl _ _
  refine Ev.calls (l := [.agg #[.slice p c.length cc], .agg #[.slice p2 d.length cd]]) Try.func4 rfl rfl rfl ?_
  change CW _ _ _ _ [(0, .agg #[.slice p c.length cc]), (1, .agg #[.slice p2 d.length cd])] _
  refine CW.seq ?_
  refine CW.region ?_
  refine RW.newP (cs := #[.slice p c.length cc]) (T := 24) rfl rfl rfl (Yv.box (v := .agg #[.slice p c.length cc]) rfl rfl) ?_
  intro b1 w1 N1
  have lo_b1 : w.heap.size ≤ b1 := by have := hB0.size; have := N1.num; omega
  have hn_b1 := N1.num
  have hs_b1 := N1.size
  have hB1 := Bl.step hB0 N1.below
  refine RW.newP (cs := #[.slice p2 d.length cd]) (T := 24) rfl rfl rfl (Yv.box (v := .agg #[.slice p2 d.length cd]) rfl rfl) ?_
  intro b2 w2 N2
  have ne1 := New.ne N2 N1.blk
  have lo_b2 : w.heap.size ≤ b2 := by have := hB1.size; have := N2.num; omega
  have hn_b2 := N2.num
  have hs_b2 := N2.size
  have hB2 := Bl.step hB1 N2.below
  have hK1 := Blk.below N1.blk N2.below
  refine RW.yl rfl rfl rfl (Yl.assign rfl rfl) ?_
  refine RW.nil ?_
  change CW _ _ _ _ _ _
  refine CW.seq ?_
  refine CW.seq ?_
  refine CW.region ?_
  refine RW.fn rfl rfl rfl (Yc.func #[] rfl ok12 (args0)) (c12) ?_
  rintro _ w3 ⟨rfl, H1⟩
  have hB3 := Bl.step hB2 H1
  have hK2 := Blk.below hK1 H1
  have hK3 := Blk.below N2.blk H1
  have hz1 := H1.size
  refine RW.yl rfl rfl rfl (Yl.not rfl rfl) ?_
  refine RW.nil ?_
  change CW _ _ _ _ _ _
  refine CW.condF rfl ?_
  refine CW.skip ?_
  change CW _ _ _ _ _ _
  refine CW.seq ?_
  refine CW.seq ?_
  rcases Bool.eq_false_or_eq_true (smallB c 20) with hg1 | hg1
  ·
    first
    | (exfalso; omega)
    | (
      refine CW.region ?_
      refine RW.yl rfl rfl rfl (Yl.loadAgg (cs := [.slice p c.length cc]) rfl rfl many24 (Blk.cells hK2)) ?_
      refine RW.fn rfl rfl rfl (Yc.func #[.agg #[.slice p c.length cc], .int .i64 20] rfl ok13 (args2 rfl rfl)) (c13 ((hv.mono (kept_from hB0 hB3 (Nat.le_refl _))).wide (Nat.zero_le _) (by omega))) ?_
      rintro _ w4 ⟨rfl, H2⟩
      have hB4 := Bl.step hB3 H2
      have hK4 := Blk.below hK2 H2
      have hK5 := Blk.below hK3 H2
      have hz2 := H2.size
      rw [hg1]
      refine RW.yl rfl rfl rfl (Yl.not rfl rfl) ?_
      refine RW.yl rfl rfl rfl (Yl.move rfl rfl) ?_
      refine RW.yl rfl rfl rfl (Yl.loadAgg (cs := [.slice p2 d.length cd]) rfl rfl many24 (Blk.cells hK5)) ?_
      refine RW.fn rfl rfl rfl (Yc.func #[.agg #[.slice p2 d.length cd], .int .i64 20] rfl ok13 (args2 rfl rfl)) (c13 ((hu.mono (kept_from hB0 hB4 (Nat.le_refl _))).wide (Nat.zero_le _) (by omega))) ?_
      rintro _ w5 ⟨rfl, H3⟩
      have hB5 := Bl.step hB4 H3
      have hK6 := Blk.below hK4 H3
      have hK7 := Blk.below hK5 H3
      have hz3 := H3.size
      refine RW.yl rfl rfl rfl (Yl.not rfl rfl) ?_
      refine RW.yl rfl rfl rfl (Yl.pickF rfl rfl rfl) ?_
      refine RW.nil ?_
      change CW _ _ _ _ _ _
      refine CW.cond rfl ?_ ?_
      ·
        intro hg2
        have hg3 : smallB d 20 = false := not_t hg2
        first
        | (exfalso; omega)
        | (
          refine CW.seq ?_
          refine CW.region ?_
          refine RW.yl rfl rfl rfl (Yl.assign rfl rfl) ?_
          refine RW.nil ?_
          change CW _ _ _ _ _ _
          refine CW.ret ?_
          change FinQ _ _ _ _ _ _
          refine fin1 (.inr rfl) rfl rfl ?_
          exact ⟨_, rfl, bval (by first | rfl | exact decide_eq_true (by omega) | exact decide_eq_true (by assumption)), hB5⟩)
      ·
        intro hg4
        have hg5 : smallB d 20 = true := not_f hg4
        first
        | (exfalso; omega)
        | (
          refine CW.skip ?_
          change CW _ _ _ _ _ _
          refine CW.seq ?_
          refine CW.region ?_
          refine RW.yl rfl rfl rfl (Yl.loadAgg (cs := [.slice p c.length cc]) rfl rfl many24 (Blk.cells hK6)) ?_
          refine RW.yl rfl rfl rfl (Yl.loadAgg (cs := [.slice p2 d.length cd]) rfl rfl many24 (Blk.cells hK7)) ?_
          refine RW.fn rfl rfl rfl (Yc.func #[.agg #[.slice p c.length cc], .agg #[.slice p2 d.length cd]] rfl ok21 (args2 rfl rfl)) (c21 ((hv.mono (kept_from hB0 hB5 (Nat.le_refl _))).wide (Nat.zero_le _) (by omega)) ((hu.mono (kept_from hB0 hB5 (Nat.le_refl _))).wide (Nat.zero_le _) (by omega))) ?_
          rintro _ w6 ⟨s1, rfl, hR1, H4⟩
          obtain ⟨ps1, cs1, rfl, hl1⟩ := hR1.form
          have hB6 := Bl.step hB5 H4
          have hK8 := Blk.below hK6 H4
          have hK9 := Blk.below hK7 H4
          have hz4 := H4.size
          refine RW.yl rfl rfl rfl (Yl.move rfl rfl) ?_
          refine RW.yl rfl rfl rfl (Yl.extract rfl rfl rfl) ?_
          refine RW.yl rfl rfl rfl (Yl.extract rfl rfl rfl) ?_
          refine RW.newP (cs := #[.slice none 0 0]) (T := 24) rfl rfl rfl (Yv.alloc (z := .agg #[.slice none 0 0]) rfl zero24) ?_
          intro b3 w7 N3
          have ne2 := New.ne N3 hK8
          have ne3 := New.ne N3 hK9
          have lo_b3 : w.heap.size ≤ b3 := by have := hB6.size; have := N3.num; omega
          have hn_b3 := N3.num
          have hs_b3 := N3.size
          have hB7 := Bl.step hB6 N3.below
          have hK10 := Blk.below hK8 N3.below
          have hK11 := Blk.below hK9 N3.below
          have hR2 := hR1.mono (kept_below N3.below (by omega))
          refine RW.stoAll (cs' := #[.slice ps1 (((parR c d).1).length) cs1]) rfl rfl N3.blk (Yu.storeAll rfl rfl rfl sz24 N3.blk rfl (by simp [Value.oneCell'])) ?_
          intro w8 H5
          have hB8 := Bl.sto hB7 H5 lo_b3
          have hK12 := Blk.sto hK10 H5 ne2
          have hK13 := Blk.sto hK11 H5 ne3
          have hK14 := H5.blk
          have hR3 := hR2.mono (kept_sto H5 (by omega) (by omega))
          have hz5 := H5.size
          refine RW.yl rfl rfl rfl (Yl.assign rfl rfl) ?_
          refine RW.nil ?_
          change CW _ _ _ _ _ _
          refine CW.seq ?_
          refine CW.region ?_
          refine RW.yl rfl rfl rfl (Yl.loadAgg (cs := [.slice p c.length cc]) rfl rfl many24 (Blk.cells hK12)) ?_
          refine RW.yl rfl rfl rfl (Yl.loadAgg (cs := [.slice p2 d.length cd]) rfl rfl many24 (Blk.cells hK13)) ?_
          refine RW.fn rfl rfl rfl (Yc.func #[.agg #[.slice p c.length cc], .agg #[.slice p2 d.length cd]] rfl ok22 (args2 rfl rfl)) (c22 ((hv.mono (kept_from hB0 hB8 (Nat.le_refl _))).wide (Nat.zero_le _) (by omega)) ((hu.mono (kept_from hB0 hB8 (Nat.le_refl _))).wide (Nat.zero_le _) (by omega))) ?_
          rintro _ w9 ⟨rfl, H6⟩
          have hB9 := Bl.step hB8 H6
          have hK15 := Blk.below hK12 H6
          have hK16 := Blk.below hK13 H6
          have hK17 := Blk.below hK14 H6
          have hR4 := hR3.mono (kept_below H6 (by omega))
          have hz6 := H6.size
          refine RW.yl rfl rfl rfl (Yl.assign rfl rfl) ?_
          refine RW.nil ?_
          change CW _ _ _ _ _ _
          refine CW.seq ?_
          refine CW.seq ?_
          refine CW.region ?_
          refine RW.yl rfl rfl rfl (Yl.move rfl rfl) ?_
          refine RW.yl rfl rfl rfl (Yl.eql rfl rfl rfl) ?_
          refine RW.nil ?_
          change CW _ _ _ _ _ _
          refine CW.cond rfl ?_ ?_
          ·
            intro hg6
            have hq5 := of_decide_eq_true hg6
            obtain ⟨hv_c, hv_d, hlen⟩ := lpairG_zero (of_decide_eq_true hg6)
            have ht_c := totG_bounds hv_c
            have hcc_c := validB_chan hv_c
            have hr1_c := hcc_c.r1
            have hr2_c := hcc_c.r2
            have hc1_c := hcc_c.c1
            have hc2_c := hcc_c.c2
            have ht_d := totG_bounds hv_d
            have hcc_d := validB_chan hv_d
            have hr1_d := hcc_d.r1
            have hr2_d := hcc_d.r2
            have hc1_d := hcc_d.c1
            have hc2_d := hcc_d.c2
            have hmm := mul_small ⟨ht_c.1, ht_c.2.1⟩ ⟨ht_d.1, ht_d.2.1⟩
            have hcc2 := Nat.mul_le_mul hc2_c hc2_d
            first
            | (exfalso; omega)
            | (
              refine CW.draw 18 rfl (Kp []) (by kernel_rfl) ?_
              intro w10 H7
              have hB10 := Bl.step hB9 H7
              have hK18 := Blk.below hK15 H7
              have hK19 := Blk.below hK16 H7
              have hK20 := Blk.below hK17 H7
              have hR5 := hR4.mono (kept_below H7 (by omega))
              have hz7 := H7.size
              have hS1 := Kp.refl [] w10
              refine RH.take 0 rfl (by kernel_rfl) rfl rfl rfl hS1 (fun W1 hW1 => Yl.fieldAddr rfl rfl Try.underlying24 rfl sz22) ?_
              refine RH.take 1 rfl (by kernel_rfl) rfl rfl rfl hS1 (fun W2 hW2 => Yl.load rfl rfl one22 (Blk.cell (Kp.blk hW2 hK18 (by simp)) rfl)) ?_
              obtain ⟨bx1, ox1, px1, cx1, hp1, hl2, hh1, hc1, hx1, hn1⟩ := (hv.mono (kept_from hB0 hB10 (Nat.le_refl _))).at 0 (by omega)
              refine RH.take 2 rfl (by kernel_rfl) rfl rfl rfl hS1 (fun W3 hW3 => Yl.indexAddr1 (k := 0) rfl rfl rfl Try.underlying22 sz31 hp1 rfl (by omega)) ?_
              refine RH.take 3 rfl (by kernel_rfl) rfl rfl rfl hS1 (fun W4 hW4 => Yl.load rfl rfl one31 (Kp.cell hW4 hc1 (by simp))) ?_
              refine RH.take 4 rfl (by kernel_rfl) rfl rfl rfl hS1 (fun W5 hW5 => Yl.len rfl rfl Try.underlying31) ?_
              refine RH.take 5 rfl (by kernel_rfl) rfl rfl rfl hS1 (fun W6 hW6 => Yl.fieldAddr rfl rfl Try.underlying24 rfl sz22) ?_
              refine RH.take 6 rfl (by kernel_rfl) rfl rfl rfl hS1 (fun W7 hW7 => Yl.load rfl rfl one22 (Blk.cell (Kp.blk hW7 hK19 (by simp)) rfl)) ?_
              obtain ⟨bx2, ox2, px2, cx2, hp2, hl3, hh2, hc2, hx2, hn2⟩ := (hu.mono (kept_from hB0 hB10 (Nat.le_refl _))).at 0 (by omega)
              refine RH.take 7 rfl (by kernel_rfl) rfl rfl rfl hS1 (fun W8 hW8 => Yl.indexAddr1 (k := 0) rfl rfl rfl Try.underlying22 sz31 hp2 rfl (by omega)) ?_
              refine RH.take 8 rfl (by kernel_rfl) rfl rfl rfl hS1 (fun W9 hW9 => Yl.load rfl rfl one31 (Kp.cell hW9 hc2 (by simp))) ?_
              refine RH.take 9 rfl (by kernel_rfl) rfl rfl rfl hS1 (fun W10 hW10 => Yl.len rfl rfl Try.underlying31) ?_
              refine RH.take 10 rfl (by kernel_rfl) rfl rfl rfl hS1 (fun W11 hW11 => Yl.mulN (a := (c[0]!).length) (b := (d[0]!).length) rfl rfl rfl (by omega)) ?_
              refine RH.take 11 rfl (by kernel_rfl) rfl rfl rfl hS1 (fun W12 hW12 => Yl.loadAgg (cs := [.slice p c.length cc]) rfl rfl many24 (Blk.cells (Kp.blk hW12 hK18 (by simp)))) ?_
              refine RH.take 13 rfl (by kernel_rfl) rfl rfl rfl hS1 (fun W14 hW14 => Yl.loadAgg (cs := [.slice p2 d.length cd]) rfl rfl many24 (Blk.cells (Kp.blk hW14 hK19 (by simp)))) ?_
              refine RH.one 12 (by kernel_rfl) ?_
              refine RO.fn rfl rfl rfl rfl (Yc.func #[.agg #[.slice p c.length cc]] rfl ok17 (args1 rfl)) (c17 ((hv.mono (kept_from hB0 hB10 (Nat.le_refl _))).wide (Nat.zero_le _) (by omega)) (validB_chanT hv_c)) ?_
              rintro _ w11 ⟨rfl, H8⟩
              have hS2 := Kp.step hS1 H8
              have hB11 := Bl.step hB10 H8
              have hK21 := Blk.below hK18 H8
              have hK22 := Blk.below hK19 H8
              have hK23 := Blk.below hK20 H8
              have hR6 := hR5.mono (kept_below H8 (by omega))
              have hz8 := H8.size
              refine ⟨hS2, ?_⟩
              refine RH.one 14 (by kernel_rfl) ?_
              refine RO.fn rfl rfl rfl rfl (Yc.func #[.agg #[.slice p2 d.length cd]] rfl ok17 (args1 rfl)) (c17 ((hu.mono (kept_from hB0 hB11 (Nat.le_refl _))).wide (Nat.zero_le _) (by omega)) (validB_chanT hv_d)) ?_
              rintro _ w12 ⟨rfl, H9⟩
              have hS3 := Kp.step hS2 H9
              have hB12 := Bl.step hB11 H9
              have hK24 := Blk.below hK21 H9
              have hK25 := Blk.below hK22 H9
              have hK26 := Blk.below hK23 H9
              have hR7 := hR6.mono (kept_below H9 (by omega))
              have hz9 := H9.size
              refine ⟨hS3, ?_⟩
              refine RH.take 15 rfl (by kernel_rfl) rfl rfl rfl hS3 (fun W17 hW17 => Yl.mul (m := totG c) (n := totG d) rfl rfl rfl (by omega)) ?_
              refine RH.one 16 (by kernel_rfl) ?_
              refine RO.fn rfl rfl rfl rfl (Yc.func #[.int .i64 ((((c[0]!).length) * ((d[0]!).length) : Nat) : Int), .int .i64 ((totG c) * (totG d))] rfl ok16 (args2 rfl rfl)) (c16) ?_
              rintro _ w13 ⟨rfl, H10⟩
              have hS4 := Kp.step hS3 H10
              have hB13 := Bl.step hB12 H10
              have hK27 := Blk.below hK24 H10
              have hK28 := Blk.below hK25 H10
              have hK29 := Blk.below hK26 H10
              have hR8 := hR7.mono (kept_below H10 (by omega))
              have hz10 := H10.size
              refine ⟨hS4, ?_⟩
              refine RH.take 17 rfl (by kernel_rfl) rfl rfl rfl hS4 (fun W19 hW19 => Yl.assign rfl rfl) ?_
              refine RH.done (by kernel_rfl) ?_
              change CW _ _ _ _ _ _
              refine CW.seq ?_
              refine CW.seq ?_
              refine CW.region ?_
              refine RW.yl rfl rfl rfl (Yl.move rfl rfl) ?_
              refine RW.yl rfl rfl rfl (Yl.neq rfl rfl rfl) ?_
              refine RW.nil ?_
              change CW _ _ _ _ _ _
              refine CW.cond rfl ?_ ?_
              ·
                intro hg7
                have hg8 : decide ((limG ((((c[0]!).length) * ((d[0]!).length) : Nat) : Int) ((totG c) * (totG d))) = 0) = false := not_t hg7
                have hq7 := of_decide_eq_false hg8
                have hk : parR c d = ([], (limG (((c[0]!).length * (d[0]!).length : Nat) : Int) (totG c * totG d))) := parR_lim hv_c hv_d hlen (of_decide_eq_false hg8)
                have hk1 : (parR c d).1 = [] := by rw [hk]
                have hk2 : (parR c d).2 = (limG (((c[0]!).length * (d[0]!).length : Nat) : Int) (totG c * totG d)) := by rw [hk]
                have hk3 : (parR c d).1.length = 0 := by rw [hk]; rfl
                first
                | (exfalso; omega)
                | (
                  refine CW.seq ?_
                  rcases Bool.eq_false_or_eq_true (decide (((parR c d).2) = (limG ((((c[0]!).length) * ((d[0]!).length) : Nat) : Int) ((totG c) * (totG d))))) with hg9 | hg9
                  ·
                    have hq8 := of_decide_eq_true hg9
                    first
                    | (exfalso; omega)
                    | (
                      refine CW.region ?_
                      refine RW.yl rfl rfl rfl (Yl.move rfl rfl) ?_
                      refine RW.yl rfl rfl rfl (Yl.move rfl rfl) ?_
                      refine RW.yl rfl rfl rfl (Yl.eqb (Yl.eql rfl rfl rfl) hg9) ?_
                      refine RW.yl rfl rfl rfl (Yl.move rfl rfl) ?_
                      refine RW.yl rfl rfl rfl (Yl.loadAgg (cs := [.slice ps1 (((parR c d).1).length) cs1]) rfl rfl many24 (Blk.cells hK29)) ?_
                      refine RW.fn rfl rfl rfl (Yc.func #[.agg #[.slice ps1 (((parR c d).1).length) cs1]] rfl ok18 (args1 rfl)) (c18 (hR8.wide (Nat.zero_le _) (by omega))) ?_
                      rintro _ w14 ⟨rfl, H11⟩
                      have hB14 := Bl.step hB13 H11
                      have hK30 := Blk.below hK27 H11
                      have hK31 := Blk.below hK28 H11
                      have hK32 := Blk.below hK29 H11
                      have hR9 := hR8.mono (kept_below H11 (by omega))
                      have hz11 := H11.size
                      refine RW.yl rfl rfl rfl (Yl.pickT rfl rfl rfl) ?_
                      refine RW.yl rfl rfl rfl (Yl.assign rfl rfl) ?_
                      refine RW.nil ?_
                      change CW _ _ _ _ _ _
                      refine CW.ret ?_
                      change FinQ _ _ _ _ _ _
                      refine fin1 (.inr rfl) rfl rfl ?_
                      exact ⟨_, rfl, bval (by first | rfl | exact decide_eq_true (by omega) | exact decide_eq_true (by assumption)), hB14⟩)
                  ·
                    have hq8 := of_decide_eq_false hg9
                    first
                    | (exfalso; omega)
                    | (
                      refine CW.region ?_
                      refine RW.yl rfl rfl rfl (Yl.move rfl rfl) ?_
                      refine RW.yl rfl rfl rfl (Yl.move rfl rfl) ?_
                      refine RW.yl rfl rfl rfl (Yl.eqb (Yl.eql rfl rfl rfl) hg9) ?_
                      refine RW.yl rfl rfl rfl (Yl.move rfl rfl) ?_
                      refine RW.skip rfl rfl rfl ?_
                      refine RW.skip rfl rfl rfl ?_
                      refine RW.yl rfl rfl rfl (Yl.pickF rfl rfl rfl) ?_
                      refine RW.yl rfl rfl rfl (Yl.assign rfl rfl) ?_
                      refine RW.nil ?_
                      change CW _ _ _ _ _ _
                      refine CW.ret ?_
                      change FinQ _ _ _ _ _ _
                      refine fin1 (.inr rfl) rfl rfl ?_
                      exact ⟨_, rfl, bval (by first | rfl | exact decide_eq_true (by omega) | exact decide_eq_true (by assumption)), hB13⟩))
              ·
                intro hg10
                have hg11 : decide ((limG ((((c[0]!).length) * ((d[0]!).length) : Nat) : Int) ((totG c) * (totG d))) = 0) = true := not_f hg10
                have hq10 := of_decide_eq_true hg11
                have hk : parR c d = ((parT c d), 0) := parR_ok hv_c hv_d hlen (of_decide_eq_true hg11)
                have hk1 : (parR c d).1 = (parT c d) := by rw [hk]
                have hk2 : (parR c d).2 = 0 := by rw [hk]
                first
                | (exfalso; omega)
                | (
                  refine CW.skip ?_
                  change CW _ _ _ _ _ _
                  refine CW.seq ?_
                  rcases Bool.eq_false_or_eq_true (decide (((parR c d).2) = 0)) with hg12 | hg12
                  ·
                    have hq11 := of_decide_eq_true hg12
                    first
                    | (exfalso; omega)
                    | (
                      refine CW.draw 10 rfl (Kp []) (by kernel_rfl) ?_
                      intro w15 H12
                      have hB15 := Bl.step hB13 H12
                      have hK33 := Blk.below hK27 H12
                      have hK34 := Blk.below hK28 H12
                      have hK35 := Blk.below hK29 H12
                      have hR10 := hR8.mono (kept_below H12 (by omega))
                      have hz12 := H12.size
                      have hS5 := Kp.refl [] w15
                      refine RH.take 0 rfl (by kernel_rfl) rfl rfl rfl hS5 (fun W20 hW20 => Yl.move rfl rfl) ?_
                      refine RH.take 1 rfl (by kernel_rfl) rfl rfl rfl hS5 (fun W21 hW21 => Yl.eqb (Yl.eql rfl rfl rfl) hg12) ?_
                      refine RH.take 2 rfl (by kernel_rfl) rfl rfl rfl hS5 (fun W22 hW22 => Yl.move rfl rfl) ?_
                      refine RH.take 3 rfl (by kernel_rfl) rfl rfl rfl hS5 (fun W23 hW23 => Yl.loadAgg (cs := [.slice ps1 (((parR c d).1).length) cs1]) rfl rfl many24 (Blk.cells (Kp.blk hW23 hK35 (by simp)))) ?_
                      refine RH.take 4 rfl (by kernel_rfl) rfl rfl rfl hS5 (fun W24 hW24 => Yl.loadAgg (cs := [.slice p c.length cc]) rfl rfl many24 (Blk.cells (Kp.blk hW24 hK33 (by simp)))) ?_
                      refine RH.take 5 rfl (by kernel_rfl) rfl rfl rfl hS5 (fun W25 hW25 => Yl.loadAgg (cs := [.slice p2 d.length cd]) rfl rfl many24 (Blk.cells (Kp.blk hW25 hK34 (by simp)))) ?_
                      refine RH.one 6 (by kernel_rfl) ?_
                      refine RO.fn rfl rfl rfl rfl (Yc.func #[.agg #[.slice p c.length cc], .agg #[.slice p2 d.length cd]] rfl ok23 (args2 rfl rfl)) (c23 ((hv.mono (kept_from hB0 hB15 (Nat.le_refl _))).wide (Nat.zero_le _) (by omega)) ((hu.mono (kept_from hB0 hB15 (Nat.le_refl _))).wide (Nat.zero_le _) (by omega)) (validB_chanT hv_c) (validB_chanT hv_d) (by omega)) ?_
                      rintro _ w16 ⟨s2, rfl, hR11, H13⟩
                      obtain ⟨ps2, cs2, rfl, hl4⟩ := hR11.form
                      have hS6 := Kp.step hS5 H13
                      have hB16 := Bl.step hB15 H13
                      have hK36 := Blk.below hK33 H13
                      have hK37 := Blk.below hK34 H13
                      have hK38 := Blk.below hK35 H13
                      have hR12 := hR10.mono (kept_below H13 (by omega))
                      have hz13 := H13.size
                      refine ⟨hS6, ?_⟩
                      refine RH.one 7 (by kernel_rfl) ?_
                      refine RO.fn rfl rfl rfl rfl (Yc.func #[.agg #[.slice ps1 (((parR c d).1).length) cs1], .agg #[.slice ps2 ((parT c d).length) cs2]] rfl ok19 (args2 rfl rfl)) (c19 (hR12.wide (Nat.zero_le _) (by omega)) (hR11.wide (Nat.zero_le _) (by omega))) ?_
                      rintro _ w17 ⟨rfl, H14⟩
                      have hS7 := Kp.step hS6 H14
                      have hB17 := Bl.step hB16 H14
                      have hK39 := Blk.below hK36 H14
                      have hK40 := Blk.below hK37 H14
                      have hK41 := Blk.below hK38 H14
                      have hR13 := hR12.mono (kept_below H14 (by omega))
                      have hR14 := hR11.mono (kept_below H14 (by omega))
                      have hz14 := H14.size
                      refine ⟨hS7, ?_⟩
                      refine RH.take 8 rfl (by kernel_rfl) rfl rfl rfl hS7 (fun W28 hW28 => Yl.pickT rfl rfl rfl) ?_
                      refine RH.take 9 rfl (by kernel_rfl) rfl rfl rfl hS7 (fun W29 hW29 => Yl.assign rfl rfl) ?_
                      refine RH.done (by kernel_rfl) ?_
                      change CW _ _ _ _ _ _
                      refine CW.ret ?_
                      change FinQ _ _ _ _ _ _
                      refine fin1 (.inr rfl) rfl rfl ?_
                      exact ⟨_, rfl, bval (by first | rfl | exact decide_eq_true (by omega) | exact decide_eq_true (by assumption)), hB17⟩)
                  ·
                    have hq11 := of_decide_eq_false hg12
                    first
                    | (exfalso; omega)
                    | (
                      refine CW.draw 10 rfl (Kp []) (by kernel_rfl) ?_
                      intro w18 H15
                      have hB18 := Bl.step hB13 H15
                      have hK42 := Blk.below hK27 H15
                      have hK43 := Blk.below hK28 H15
                      have hK44 := Blk.below hK29 H15
                      have hR15 := hR8.mono (kept_below H15 (by omega))
                      have hz15 := H15.size
                      have hS8 := Kp.refl [] w18
                      refine RH.take 0 rfl (by kernel_rfl) rfl rfl rfl hS8 (fun W30 hW30 => Yl.move rfl rfl) ?_
                      refine RH.take 1 rfl (by kernel_rfl) rfl rfl rfl hS8 (fun W31 hW31 => Yl.eqb (Yl.eql rfl rfl rfl) hg12) ?_
                      refine RH.take 2 rfl (by kernel_rfl) rfl rfl rfl hS8 (fun W32 hW32 => Yl.move rfl rfl) ?_
                      refine RH.pass 3 rfl (by kernel_rfl) rfl rfl rfl hS8 ?_
                      refine RH.pass 4 rfl (by kernel_rfl) rfl rfl rfl hS8 ?_
                      refine RH.pass 5 rfl (by kernel_rfl) rfl rfl rfl hS8 ?_
                      refine RH.pass 6 rfl (by kernel_rfl) rfl rfl rfl hS8 ?_
                      refine RH.pass 7 rfl (by kernel_rfl) rfl rfl rfl hS8 ?_
                      refine RH.take 8 rfl (by kernel_rfl) rfl rfl rfl hS8 (fun W33 hW33 => Yl.pickF rfl rfl rfl) ?_
                      refine RH.take 9 rfl (by kernel_rfl) rfl rfl rfl hS8 (fun W34 hW34 => Yl.assign rfl rfl) ?_
                      refine RH.done (by kernel_rfl) ?_
                      change CW _ _ _ _ _ _
                      refine CW.ret ?_
                      change FinQ _ _ _ _ _ _
                      refine fin1 (.inr rfl) rfl rfl ?_
                      exact ⟨_, rfl, bval (by first | rfl | exact decide_eq_true (by omega) | exact decide_eq_true (by assumption)), hB18⟩)))
          ·
            intro hg13
            have hq13 := of_decide_eq_false hg13
            have hk : parR c d = ([], (lpairG c d)) := parR_bad (of_decide_eq_false hg13)
            have hk1 : (parR c d).1 = [] := by rw [hk]
            have hk2 : (parR c d).2 = (lpairG c d) := by rw [hk]
            have hk3 : (parR c d).1.length = 0 := by rw [hk]; rfl
            first
            | (exfalso; omega)
            | (
              refine CW.skip ?_
              change CW _ _ _ _ _ _
              refine CW.seq ?_
              refine CW.seq ?_
              refine CW.region ?_
              refine RW.yl rfl rfl rfl (Yl.move rfl rfl) ?_
              refine RW.yl rfl rfl rfl (Yl.eqb (Yl.neq rfl rfl rfl) (congrArg (fun b => !b) hg13)) ?_
              refine RW.nil ?_
              change CW _ _ _ _ _ _
              refine CW.condT rfl ?_
              refine CW.seq ?_
              rcases Bool.eq_false_or_eq_true (decide (((parR c d).2) = (lpairG c d))) with hg14 | hg14
              ·
                have hq14 := of_decide_eq_true hg14
                first
                | (exfalso; omega)
                | (
                  refine CW.region ?_
                  refine RW.yl rfl rfl rfl (Yl.move rfl rfl) ?_
                  refine RW.yl rfl rfl rfl (Yl.move rfl rfl) ?_
                  refine RW.yl rfl rfl rfl (Yl.eqb (Yl.eql rfl rfl rfl) hg14) ?_
                  refine RW.yl rfl rfl rfl (Yl.move rfl rfl) ?_
                  refine RW.yl rfl rfl rfl (Yl.loadAgg (cs := [.slice ps1 (((parR c d).1).length) cs1]) rfl rfl many24 (Blk.cells hK17)) ?_
                  refine RW.fn rfl rfl rfl (Yc.func #[.agg #[.slice ps1 (((parR c d).1).length) cs1]] rfl ok18 (args1 rfl)) (c18 (hR4.wide (Nat.zero_le _) (by omega))) ?_
                  rintro _ w19 ⟨rfl, H16⟩
                  have hB19 := Bl.step hB9 H16
                  have hK45 := Blk.below hK15 H16
                  have hK46 := Blk.below hK16 H16
                  have hK47 := Blk.below hK17 H16
                  have hR16 := hR4.mono (kept_below H16 (by omega))
                  have hz16 := H16.size
                  refine RW.yl rfl rfl rfl (Yl.pickT rfl rfl rfl) ?_
                  refine RW.yl rfl rfl rfl (Yl.assign rfl rfl) ?_
                  refine RW.nil ?_
                  change CW _ _ _ _ _ _
                  refine CW.ret ?_
                  change FinQ _ _ _ _ _ _
                  refine fin1 (.inr rfl) rfl rfl ?_
                  exact ⟨_, rfl, bval (by first | rfl | exact decide_eq_true (by omega) | exact decide_eq_true (by assumption)), hB19⟩)
              ·
                have hq14 := of_decide_eq_false hg14
                first
                | (exfalso; omega)
                | (
                  refine CW.region ?_
                  refine RW.yl rfl rfl rfl (Yl.move rfl rfl) ?_
                  refine RW.yl rfl rfl rfl (Yl.move rfl rfl) ?_
                  refine RW.yl rfl rfl rfl (Yl.eqb (Yl.eql rfl rfl rfl) hg14) ?_
                  refine RW.yl rfl rfl rfl (Yl.move rfl rfl) ?_
                  refine RW.skip rfl rfl rfl ?_
                  refine RW.skip rfl rfl rfl ?_
                  refine RW.yl rfl rfl rfl (Yl.pickF rfl rfl rfl) ?_
                  refine RW.yl rfl rfl rfl (Yl.assign rfl rfl) ?_
                  refine RW.nil ?_
                  change CW _ _ _ _ _ _
                  refine CW.ret ?_
                  change FinQ _ _ _ _ _ _
                  refine fin1 (.inr rfl) rfl rfl ?_
                  exact ⟨_, rfl, bval (by first | rfl | exact decide_eq_true (by omega) | exact decide_eq_true (by assumption)), hB9⟩))))
  ·
    first
    | (exfalso; omega)
    | (
      refine CW.region ?_
      refine RW.yl rfl rfl rfl (Yl.loadAgg (cs := [.slice p c.length cc]) rfl rfl many24 (Blk.cells hK2)) ?_
      refine RW.fn rfl rfl rfl (Yc.func #[.agg #[.slice p c.length cc], .int .i64 20] rfl ok13 (args2 rfl rfl)) (c13 ((hv.mono (kept_from hB0 hB3 (Nat.le_refl _))).wide (Nat.zero_le _) (by omega))) ?_
      rintro _ w20 ⟨rfl, H17⟩
      have hB20 := Bl.step hB3 H17
      have hK48 := Blk.below hK2 H17
      have hK49 := Blk.below hK3 H17
      have hz17 := H17.size
      rw [hg1]
      refine RW.yl rfl rfl rfl (Yl.not rfl rfl) ?_
      refine RW.yl rfl rfl rfl (Yl.move rfl rfl) ?_
      refine RW.skip rfl rfl rfl ?_
      refine RW.skip rfl rfl rfl ?_
      refine RW.skip rfl rfl rfl ?_
      refine RW.yl rfl rfl rfl (Yl.pickT rfl rfl rfl) ?_
      refine RW.nil ?_
      change CW _ _ _ _ _ _
      refine CW.condT rfl ?_
      refine CW.seq ?_
      refine CW.region ?_
      refine RW.yl rfl rfl rfl (Yl.assign rfl rfl) ?_
      refine RW.nil ?_
      change CW _ _ _ _ _ _
      refine CW.ret ?_
      change FinQ _ _ _ _ _ _
      refine fin1 (.inr rfl) rfl rfl ?_
      exact ⟨_, rfl, bval (by first | rfl | exact decide_eq_true (by omega) | exact decide_eq_true (by assumption)), hB20⟩)

end Go.Proofs.Ytodeffidnipelaa
