/- Repeat. -/
import Derived.Test.YtodeffidnipelaaM5
namespace Go.Proofs.Ytodeffidnipelaa
open Go.RowKit Go.Ev


theorem c25 {w : World} {v : Value} {c : List (List Int)} (hv : RRows 0 w.heap.size w v c) {n : Int} :
    Calls Try.prog 25 #[.agg #[v], .int .i64 n] w (Ret fun r w' => ∃ s, r = .tuple #[.agg #[s], .int .i64 (repR c n).2] ∧ RRows w.heap.size w'.heap.size w' s (repR c n).1 ∧ Below w.heap.size w w') := by
  obtain ⟨p, cc, rfl, hl⟩ := hv.form
  have hB0 : Below w.heap.size w w := Below.refl _ _
  refine Ev.calls (l := [.agg #[.slice p c.length cc], .int .i64 n]) Try.func25 rfl rfl rfl ?_
  change CW _ _ _ _ [(0, .agg #[.slice p c.length cc]), (1, .int .i64 n)] _
  refine CW.seq ?_
  refine CW.region ?_
  refine RW.newP (cs := #[.slice p c.length cc]) (T := 24) rfl rfl rfl (Yv.box (v := .agg #[.slice p c.length cc]) rfl rfl) ?_
  intro b1 w1 N1
  have lo_b1 : w.heap.size ≤ b1 := by have := hB0.size; have := N1.num; omega
  have hn_b1 := N1.num
  have hs_b1 := N1.size
  have hB1 := Bl.step hB0 N1.below
  refine RW.newP (cs := #[.slice none 0 0]) (T := 24) rfl rfl rfl (Yv.alloc (z := .agg #[.slice none 0 0]) rfl zero24) ?_
  intro b2 w2 N2
  have ne1 := New.ne N2 N1.blk
  have lo_b2 : w.heap.size ≤ b2 := by have := hB1.size; have := N2.num; omega
  have hn_b2 := N2.num
  have hs_b2 := N2.size
  have hB2 := Bl.step hB1 N2.below
  have hK1 := Blk.below N1.blk N2.below
  refine RW.yl rfl rfl rfl (Yl.assign rfl rfl) ?_
  refine RW.nil ?_
  change CW _ _ _ _ _ _
  refine CW.seq ?_
  refine CW.seq ?_
  refine CW.region ?_
  refine RW.yl rfl rfl rfl (Yl.loadAgg (cs := [.slice p c.length cc]) rfl rfl many24 (Blk.cells hK1)) ?_
  refine RW.fn rfl rfl rfl (Yc.func #[.agg #[.slice p c.length cc]] rfl ok48 (args1 rfl)) (c48 ((hv.mono (kept_from hB0 hB2 (Nat.le_refl _))).wide (Nat.zero_le _) (by omega))) ?_
  rintro _ w3 ⟨rfl, H1⟩
  have hB3 := Bl.step hB2 H1
  have hK2 := Blk.below hK1 H1
  have hK3 := Blk.below N2.blk H1
  have hz1 := H1.size
  refine RW.yl rfl rfl rfl (Yl.not rfl rfl) ?_
  refine RW.nil ?_
  change CW _ _ _ _ _ _
  refine CW.cond rfl ?_ ?_
  ·
    intro hg1
    have hg2 : validB c = false := not_t hg1
    first
    | (exfalso; omega)
    | (
      refine CW.seq ?_
      refine CW.region ?_
      refine RW.yl rfl rfl rfl (Yl.build0 rfl rfl built24) ?_
      refine RW.stoAll (cs' := #[.slice none 0 0]) rfl rfl hK3 (Yu.storeAll rfl rfl rfl sz24 hK3 rfl (by simp [Value.oneCell'])) ?_
      intro w4 H2
      have hB4 := Bl.sto hB3 H2 lo_b2
      have hK4 := Blk.sto hK2 H2 ne1
      have hK5 := H2.blk
      have hz2 := H2.size
      refine RW.yl rfl rfl rfl (Yl.assign rfl rfl) ?_
      refine RW.nil ?_
      change CW _ _ _ _ _ _
      refine CW.ret ?_
      change FinQ _ _ _ _ _ _
      refine finC1 (.inr rfl) rfl rfl (run_loadVar_many (cs := [.slice none 0 0]) many24 (Blk.cells hK5)) rfl ?_
      have hcr : repR c n = ([], 1) := by first | exact repR_bad (by assumption) | exact repR_rng (by assumption) (by omega) | exact repR_stop (by assumption) (by omega) (by omega) (by assumption) (by omega) (by omega) | exact repR_end (by assumption) (by omega) (by omega) (by assumption) (by omega)
      exact ⟨_, rfl, _, by first | (rw [hcr]; done) | (rw [hcr]; rfl), by rw [hcr]; exact Sl.nil _ _ _ _, hB4⟩)
  ·
    intro hg3
    have hg4 : validB c = true := not_f hg3
    have hv_c : validB c = true := hg4
    have ht_c := totG_bounds hv_c
    have hcc_c := validB_chan hv_c
    have hr1_c := hcc_c.r1
    have hr2_c := hcc_c.r2
    have hc1_c := hcc_c.c1
    have hc2_c := hcc_c.c2
    first
    | (exfalso; omega)
    | (
      refine CW.skip ?_
      change CW _ _ _ _ _ _
      refine CW.seq ?_
      refine CW.seq ?_
      rcases Bool.eq_false_or_eq_true (decide (n < 1)) with hg5 | hg5
      ·
        have hq3 := of_decide_eq_true hg5
        first
        | (exfalso; omega)
        | (
          refine CW.region ?_
          refine RW.yl rfl rfl rfl (Yl.move rfl rfl) ?_
          refine RW.yl rfl rfl rfl (Yl.eqb (Yl.lss rfl rfl rfl) hg5) ?_
          refine RW.yl rfl rfl rfl (Yl.move rfl rfl) ?_
          refine RW.skip rfl rfl rfl ?_
          refine RW.skip rfl rfl rfl ?_
          refine RW.yl rfl rfl rfl (Yl.pickT rfl rfl rfl) ?_
          refine RW.nil ?_
          change CW _ _ _ _ _ _
          refine CW.condT rfl ?_
          refine CW.seq ?_
          refine CW.region ?_
          refine RW.yl rfl rfl rfl (Yl.build0 rfl rfl built24) ?_
          refine RW.stoAll (cs' := #[.slice none 0 0]) rfl rfl hK3 (Yu.storeAll rfl rfl rfl sz24 hK3 rfl (by simp [Value.oneCell'])) ?_
          intro w5 H3
          have hB5 := Bl.sto hB3 H3 lo_b2
          have hK6 := Blk.sto hK2 H3 ne1
          have hK7 := H3.blk
          have hz3 := H3.size
          refine RW.yl rfl rfl rfl (Yl.assign rfl rfl) ?_
          refine RW.nil ?_
          change CW _ _ _ _ _ _
          refine CW.ret ?_
          change FinQ _ _ _ _ _ _
          refine finC1 (.inr rfl) rfl rfl (run_loadVar_many (cs := [.slice none 0 0]) many24 (Blk.cells hK7)) rfl ?_
          have hcr : repR c n = ([], 3) := by first | exact repR_bad (by assumption) | exact repR_rng (by assumption) (by omega) | exact repR_stop (by assumption) (by omega) (by omega) (by assumption) (by omega) (by omega) | exact repR_end (by assumption) (by omega) (by omega) (by assumption) (by omega)
          exact ⟨_, rfl, _, by first | (rw [hcr]; done) | (rw [hcr]; rfl), by rw [hcr]; exact Sl.nil _ _ _ _, hB5⟩)
      ·
        have hq3 := of_decide_eq_false hg5
        first
        | (exfalso; omega)
        | (
          refine CW.region ?_
          refine RW.yl rfl rfl rfl (Yl.move rfl rfl) ?_
          refine RW.yl rfl rfl rfl (Yl.eqb (Yl.lss rfl rfl rfl) hg5) ?_
          refine RW.yl rfl rfl rfl (Yl.move rfl rfl) ?_
          refine RW.yl rfl rfl rfl (Yl.move rfl rfl) ?_
          refine RW.yl rfl rfl rfl (Yl.gtr rfl rfl rfl) ?_
          refine RW.yl rfl rfl rfl (Yl.pickF rfl rfl rfl) ?_
          refine RW.nil ?_
          change CW _ _ _ _ _ _
          refine CW.cond rfl ?_ ?_
          ·
            intro hg6
            have hq5 := of_decide_eq_true hg6
            first
            | (exfalso; omega)
            | (
              refine CW.seq ?_
              refine CW.region ?_
              refine RW.yl rfl rfl rfl (Yl.build0 rfl rfl built24) ?_
              refine RW.stoAll (cs' := #[.slice none 0 0]) rfl rfl hK3 (Yu.storeAll rfl rfl rfl sz24 hK3 rfl (by simp [Value.oneCell'])) ?_
              intro w6 H4
              have hB6 := Bl.sto hB3 H4 lo_b2
              have hK8 := Blk.sto hK2 H4 ne1
              have hK9 := H4.blk
              have hz4 := H4.size
              refine RW.yl rfl rfl rfl (Yl.assign rfl rfl) ?_
              refine RW.nil ?_
              change CW _ _ _ _ _ _
              refine CW.ret ?_
              change FinQ _ _ _ _ _ _
              refine finC1 (.inr rfl) rfl rfl (run_loadVar_many (cs := [.slice none 0 0]) many24 (Blk.cells hK9)) rfl ?_
              have hcr : repR c n = ([], 3) := by first | exact repR_bad (by assumption) | exact repR_rng (by assumption) (by omega) | exact repR_stop (by assumption) (by omega) (by omega) (by assumption) (by omega) (by omega) | exact repR_end (by assumption) (by omega) (by omega) (by assumption) (by omega)
              exact ⟨_, rfl, _, by first | (rw [hcr]; done) | (rw [hcr]; rfl), by rw [hcr]; exact Sl.nil _ _ _ _, hB6⟩)
          ·
            intro hg7
            have hq7 := of_decide_eq_false hg7
            first
            | (exfalso; omega)
            | (
              refine CW.skip ?_
              change CW _ _ _ _ _ _
              refine CW.seq ?_
              refine CW.cut (fun E W => ∃ nb6_z1 : Nat, ∃ pz1 : Option Addr, ∃ cz1 : Nat, (Sub [(1, .int .i64 n), (2, .pointer (some ⟨b1, 0, none⟩)), (4, .pointer (some ⟨b2, 0, none⟩)), (5, .int .i64 0), (6, .pointer (some ⟨nb6_z1, 0, none⟩))] E) ∧ (Below w.heap.size w W) ∧ (Blk W b1 #[.slice p c.length cc] 24) ∧ (Blk W b2 #[.slice none 0 0] 24) ∧ (Blk W nb6_z1 #[.slice pz1 ((tab (c.length) ((c[0]!).length) (fun x y => ((c[x]!)[y]!))).length) cz1] 24) ∧ (w.heap.size ≤ nb6_z1) ∧ (b1 ≠ nb6_z1) ∧ (b2 ≠ nb6_z1) ∧ (RRows w3.heap.size W.heap.size W (.slice pz1 ((tab (c.length) ((c[0]!).length) (fun x y => ((c[x]!)[y]!))).length) cz1) (tab (c.length) ((c[0]!).length) (fun x y => ((c[x]!)[y]!)))) ∧ (w3.heap.size ≤ W.heap.size)) ?_ ?_
              ·
                refine CW.draw 9 rfl (Kp []) (by kernel_rfl) ?_
                intro w7 H5
                have hB7 := Bl.step hB3 H5
                have hK10 := Blk.below hK2 H5
                have hK11 := Blk.below hK3 H5
                have hz5 := H5.size
                have hS1 := Kp.refl [] w7
                refine RH.take 0 rfl (by kernel_rfl) rfl rfl rfl hS1 (fun W1 hW1 => Yl.fieldAddr rfl rfl Try.underlying24 rfl sz22) ?_
                refine RH.take 1 rfl (by kernel_rfl) rfl rfl rfl hS1 (fun W2 hW2 => Yl.load rfl rfl one22 (Blk.cell (Kp.blk hW2 hK10 (by simp)) rfl)) ?_
                refine RH.take 2 rfl (by kernel_rfl) rfl rfl rfl hS1 (fun W3 hW3 => Yl.len rfl rfl Try.underlying22) ?_
                refine RH.take 3 rfl (by kernel_rfl) rfl rfl rfl hS1 (fun W4 hW4 => Yl.loadAgg (cs := [.slice p c.length cc]) rfl rfl many24 (Blk.cells (Kp.blk hW4 hK10 (by simp)))) ?_
                refine RH.take 5 rfl (by kernel_rfl) rfl rfl rfl hS1 (fun W6 hW6 => Yl.func #[.pointer (some ⟨b1, 0, none⟩)] rfl rfl (args1 rfl)) ?_
                refine RH.two 4 7 (by kernel_rfl) ?_ ?_
                ·
                  refine RO.fn rfl rfl rfl rfl (Yc.func #[.agg #[.slice p c.length cc]] rfl ok40 (args1 rfl)) (c40 ((hv.mono (kept_from hB0 hB7 (Nat.le_refl _))).wide (Nat.zero_le _) (by omega)) (by omega)) ?_
                  rintro _ w8 ⟨rfl, H6⟩
                  have hS2 := Kp.step hS1 H6
                  have hB8 := Bl.step hB7 H6
                  have hK12 := Blk.below hK10 H6
                  have hK13 := Blk.below hK11 H6
                  have hz6 := H6.size
                  refine ⟨hS2, ?_⟩
                  refine RH.two 6 7 (by kernel_rfl) ?_ ?_
                  ·
                    refine RO.fn rfl rfl rfl rfl (Yc.func #[.int .i64 ((c.length : Nat) : Int), .int .i64 (((c[0]!).length : Nat) : Int), .func (.func 49) #[] #[.pointer (some ⟨b1, 0, none⟩)]] rfl ok43 (args3 rfl rfl rfl)) (c43_49 (f := fun x y => ((c[x]!)[y]!)) (fun hx hy hb => c49 (Blk.below hK12 hb) ((((hv.mono (kept_from hB0 hB8 (Nat.le_refl _))).wide (Nat.zero_le _) (by omega)).mono (kept_below hb (Nat.le_refl _))).wide (Nat.zero_le _) hb.size) hcc_c (by omega) (by omega)) (by omega) (by omega)) ?_
                    rintro _ w9 ⟨s1, rfl, hR1, H7⟩
                    obtain ⟨ps1, cs1, rfl, hl1⟩ := hR1.form
                    have hS3 := Kp.step hS2 H7
                    have hB9 := Bl.step hB8 H7
                    have hK14 := Blk.below hK12 H7
                    have hK15 := Blk.below hK13 H7
                    have hz7 := H7.size
                    refine ⟨hS3, ?_⟩
                    refine RH.one 7 (by kernel_rfl) ?_
                    refine RO.newP rfl (cs := #[.slice none 0 0]) (T := 24) rfl rfl rfl (Yv.alloc (z := .agg #[.slice none 0 0]) rfl zero24) ?_
                    intro b3 w10 N3
                    have ne2 := New.ne N3 hK14
                    have ne3 := New.ne N3 hK15
                    have lo_b3 : w.heap.size ≤ b3 := by have := hB9.size; have := N3.num; omega
                    have hn_b3 := N3.num
                    have hs_b3 := N3.size
                    have hS4 := Kp.step hS3 N3.below
                    have hB10 := Bl.step hB9 N3.below
                    have hK16 := Blk.below hK14 N3.below
                    have hK17 := Blk.below hK15 N3.below
                    have hR2 := hR1.mono (kept_below N3.below (by omega))
                    refine ⟨hS4, ?_⟩
                    refine RH.one 8 (by kernel_rfl) ?_
                    refine RO.stoAll rfl (cs' := #[.slice ps1 ((tab (c.length) ((c[0]!).length) (fun x y => ((c[x]!)[y]!))).length) cs1]) rfl rfl N3.blk (Yu.storeAll rfl rfl rfl sz24 N3.blk rfl (by simp [Value.oneCell'])) ?_
                    intro w11 H8
                    have hS5 := Kp.sto hS4 H8 (.inr (by omega))
                    have hB11 := Bl.sto hB10 H8 lo_b3
                    have hK18 := Blk.sto hK16 H8 ne2
                    have hK19 := Blk.sto hK17 H8 ne3
                    have hK20 := H8.blk
                    have hR3 := hR2.mono (kept_sto H8 (by omega) (by omega))
                    have hz8 := H8.size
                    refine ⟨hS5, ?_⟩
                    refine RH.done (by kernel_rfl) ?_
                    exact ⟨b3, ps1, cs1, Sub.cons rfl (Sub.cons rfl (Sub.cons rfl (Sub.cons rfl (Sub.cons rfl (Sub.nil))))), hB11, hK18, hK19, hK20, lo_b3, ne2, ne3, (hR3.wide (by omega) (by omega)), (by omega)⟩
                  ·
                    refine RO.newP rfl (cs := #[.slice none 0 0]) (T := 24) rfl rfl rfl (Yv.alloc (z := .agg #[.slice none 0 0]) rfl zero24) ?_
                    intro b4 w12 N4
                    have ne4 := New.ne N4 hK12
                    have ne5 := New.ne N4 hK13
                    have lo_b4 : w.heap.size ≤ b4 := by have := hB8.size; have := N4.num; omega
                    have hn_b4 := N4.num
                    have hs_b4 := N4.size
                    have hS6 := Kp.step hS2 N4.below
                    have hB12 := Bl.step hB8 N4.below
                    have hK21 := Blk.below hK12 N4.below
                    have hK22 := Blk.below hK13 N4.below
                    refine ⟨hS6, ?_⟩
                    refine RH.one 6 (by kernel_rfl) ?_
                    refine RO.fn rfl rfl rfl rfl (Yc.func #[.int .i64 ((c.length : Nat) : Int), .int .i64 (((c[0]!).length : Nat) : Int), .func (.func 49) #[] #[.pointer (some ⟨b1, 0, none⟩)]] rfl ok43 (args3 rfl rfl rfl)) (c43_49 (f := fun x y => ((c[x]!)[y]!)) (fun hx hy hb => c49 (Blk.below hK21 hb) ((((hv.mono (kept_from hB0 hB12 (Nat.le_refl _))).wide (Nat.zero_le _) (by omega)).mono (kept_below hb (Nat.le_refl _))).wide (Nat.zero_le _) hb.size) hcc_c (by omega) (by omega)) (by omega) (by omega)) ?_
                    rintro _ w13 ⟨s2, rfl, hR4, H9⟩
                    obtain ⟨ps2, cs2, rfl, hl2⟩ := hR4.form
                    have hS7 := Kp.step hS6 H9
                    have hB13 := Bl.step hB12 H9
                    have hK23 := Blk.below hK21 H9
                    have hK24 := Blk.below hK22 H9
                    have hK25 := Blk.below N4.blk H9
                    have hz9 := H9.size
                    refine ⟨hS7, ?_⟩
                    refine RH.one 8 (by kernel_rfl) ?_
                    refine RO.stoAll rfl (cs' := #[.slice ps2 ((tab (c.length) ((c[0]!).length) (fun x y => ((c[x]!)[y]!))).length) cs2]) rfl rfl hK25 (Yu.storeAll rfl rfl rfl sz24 hK25 rfl (by simp [Value.oneCell'])) ?_
                    intro w14 H10
                    have hS8 := Kp.sto hS7 H10 (.inr (by omega))
                    have hB14 := Bl.sto hB13 H10 lo_b4
                    have hK26 := Blk.sto hK23 H10 ne4
                    have hK27 := Blk.sto hK24 H10 ne5
                    have hK28 := H10.blk
                    have hR5 := hR4.mono (kept_sto H10 (by omega) (by omega))
                    have hz10 := H10.size
                    refine ⟨hS8, ?_⟩
                    refine RH.done (by kernel_rfl) ?_
                    exact ⟨b4, ps2, cs2, Sub.cons rfl (Sub.cons rfl (Sub.cons rfl (Sub.cons rfl (Sub.cons rfl (Sub.nil))))), hB14, hK26, hK27, hK28, lo_b4, ne4, ne5, (hR5.wide (by omega) (by omega)), (by omega)⟩
                ·
                  refine RO.newP rfl (cs := #[.slice none 0 0]) (T := 24) rfl rfl rfl (Yv.alloc (z := .agg #[.slice none 0 0]) rfl zero24) ?_
                  intro b5 w15 N5
                  have ne6 := New.ne N5 hK10
                  have ne7 := New.ne N5 hK11
                  have lo_b5 : w.heap.size ≤ b5 := by have := hB7.size; have := N5.num; omega
                  have hn_b5 := N5.num
                  have hs_b5 := N5.size
                  have hS9 := Kp.step hS1 N5.below
                  have hB15 := Bl.step hB7 N5.below
                  have hK29 := Blk.below hK10 N5.below
                  have hK30 := Blk.below hK11 N5.below
                  refine ⟨hS9, ?_⟩
                  refine RH.one 4 (by kernel_rfl) ?_
                  refine RO.fn rfl rfl rfl rfl (Yc.func #[.agg #[.slice p c.length cc]] rfl ok40 (args1 rfl)) (c40 ((hv.mono (kept_from hB0 hB15 (Nat.le_refl _))).wide (Nat.zero_le _) (by omega)) (by omega)) ?_
                  rintro _ w16 ⟨rfl, H11⟩
                  have hS10 := Kp.step hS9 H11
                  have hB16 := Bl.step hB15 H11
                  have hK31 := Blk.below hK29 H11
                  have hK32 := Blk.below hK30 H11
                  have hK33 := Blk.below N5.blk H11
                  have hz11 := H11.size
                  refine ⟨hS10, ?_⟩
                  refine RH.one 6 (by kernel_rfl) ?_
                  refine RO.fn rfl rfl rfl rfl (Yc.func #[.int .i64 ((c.length : Nat) : Int), .int .i64 (((c[0]!).length : Nat) : Int), .func (.func 49) #[] #[.pointer (some ⟨b1, 0, none⟩)]] rfl ok43 (args3 rfl rfl rfl)) (c43_49 (f := fun x y => ((c[x]!)[y]!)) (fun hx hy hb => c49 (Blk.below hK31 hb) ((((hv.mono (kept_from hB0 hB16 (Nat.le_refl _))).wide (Nat.zero_le _) (by omega)).mono (kept_below hb (Nat.le_refl _))).wide (Nat.zero_le _) hb.size) hcc_c (by omega) (by omega)) (by omega) (by omega)) ?_
                  rintro _ w17 ⟨s3, rfl, hR6, H12⟩
                  obtain ⟨ps3, cs3, rfl, hl3⟩ := hR6.form
                  have hS11 := Kp.step hS10 H12
                  have hB17 := Bl.step hB16 H12
                  have hK34 := Blk.below hK31 H12
                  have hK35 := Blk.below hK32 H12
                  have hK36 := Blk.below hK33 H12
                  have hz12 := H12.size
                  refine ⟨hS11, ?_⟩
                  refine RH.one 8 (by kernel_rfl) ?_
                  refine RO.stoAll rfl (cs' := #[.slice ps3 ((tab (c.length) ((c[0]!).length) (fun x y => ((c[x]!)[y]!))).length) cs3]) rfl rfl hK36 (Yu.storeAll rfl rfl rfl sz24 hK36 rfl (by simp [Value.oneCell'])) ?_
                  intro w18 H13
                  have hS12 := Kp.sto hS11 H13 (.inr (by omega))
                  have hB18 := Bl.sto hB17 H13 lo_b5
                  have hK37 := Blk.sto hK34 H13 ne6
                  have hK38 := Blk.sto hK35 H13 ne7
                  have hK39 := H13.blk
                  have hR7 := hR6.mono (kept_sto H13 (by omega) (by omega))
                  have hz13 := H13.size
                  refine ⟨hS12, ?_⟩
                  refine RH.done (by kernel_rfl) ?_
                  exact ⟨b5, ps3, cs3, Sub.cons rfl (Sub.cons rfl (Sub.cons rfl (Sub.cons rfl (Sub.cons rfl (Sub.nil))))), hB18, hK37, hK38, hK39, lo_b5, ne6, ne7, (hR7.wide (by omega) (by omega)), (by omega)⟩
              ·
                rintro E1 w19 ⟨nb6_z1, pz1, cz1, hsub1, hB19, hK40, hK41, hK42, lo1, ne8, ne9, hR8, hz14⟩
                have hlt1 := Blk.lt hK42
                change CW _ _ _ _ _ _
                refine CW.weak ?_ hsub1
                refine CW.seq ?_
                refine CW.seq ?_
                refine CW.region ?_
                refine RW.yl rfl rfl rfl (Yl.move rfl rfl) ?_
                refine RW.yl rfl rfl rfl (Yl.sub (m := n) (n := 1) rfl rfl rfl (by omega)) ?_
                refine RW.yl rfl rfl rfl (Yl.move rfl rfl) ?_
                refine RW.nil ?_
                change CW _ _ _ _ _ _
                refine CW.block ?_
                refine CW.loop4 (fun (k : Nat) (m : List (List Int)) (ps : Option Addr) (cs : Nat) => [(2, .pointer (some ⟨b1, 0, none⟩)), (4, .pointer (some ⟨b2, 0, none⟩)), (6, .pointer (some ⟨nb6_z1, 0, none⟩)), (28, .int .i64 (n - 1)), (29, .int .i64 ((k : Nat) : Int))]) (fun k m ps cs gm W => (gm = (n - 1).toNat - k) ∧ ((k : Int) ≤ n - 1) ∧ (repGo c (n - 1).toNat c = repGo c ((n - 1).toNat - k) m) ∧ (Below w.heap.size w W) ∧ (Blk W b1 #[.slice p c.length cc] 24) ∧ (Blk W b2 #[.slice none 0 0] 24) ∧ (Blk W nb6_z1 #[.slice ps m.length cs] 24) ∧ (RRows w3.heap.size W.heap.size W (.slice ps m.length cs) m) ∧ (w19.heap.size ≤ W.heap.size)) 0 (tab (c.length) ((c[0]!).length) (fun x y => ((c[x]!)[y]!))) pz1 cz1 ((n - 1).toNat - 0) ⟨rfl, (by first | assumption | omega | rfl | (first | exact rep_init hv_c | exact rep_next (by assumption) (by omega) (by omega))), (by first | assumption | omega | rfl | (first | exact rep_init hv_c | exact rep_next (by assumption) (by omega) (by omega))), hB19, hK40, hK41, hK42, (hR8.wide (by omega) (by omega)), (by omega)⟩ (Sub.cons rfl (Sub.cons rfl (Sub.cons rfl (Sub.cons rfl (Sub.cons rfl (Sub.nil)))))) ?_
                intro k m ps cs gm1 w20 hinv
                obtain ⟨hm1, hi1, hi2, hB20, hK43, hK44, hK45, hR9, hz15⟩ := hinv
                change CW _ _ _ _ [(2, .pointer (some ⟨b1, 0, none⟩)), (4, .pointer (some ⟨b2, 0, none⟩)), (6, .pointer (some ⟨nb6_z1, 0, none⟩)), (28, .int .i64 (n - 1)), (29, .int .i64 ((k : Nat) : Int))] _
                refine CW.seq ?_
                refine CW.region ?_
                refine RW.yl rfl rfl rfl (Yl.lss rfl rfl rfl) ?_
                refine RW.nil ?_
                change CW _ _ _ _ _ _
                refine CW.seq ?_
                refine CW.cond rfl ?_ ?_
                ·
                  intro hg8
                  have hq9 := of_decide_eq_true hg8
                  first
                  | (exfalso; omega)
                  | (
                    refine CW.skip ?_
                    change CW _ _ _ _ _ _
                    refine CW.seq ?_
                    refine CW.block ?_
                    refine CW.seq ?_
                    refine CW.region ?_
                    refine RW.yl rfl rfl rfl (Yl.loadAgg (cs := [.slice ps m.length cs]) rfl rfl many24 (Blk.cells hK45)) ?_
                    refine RW.yl rfl rfl rfl (Yl.loadAgg (cs := [.slice p c.length cc]) rfl rfl many24 (Blk.cells hK43)) ?_
                    refine RW.fn rfl rfl rfl (Yc.func #[.agg #[.slice ps m.length cs], .agg #[.slice p c.length cc]] rfl ok21 (args2 rfl rfl)) (c21 (hR9.wide (Nat.zero_le _) (by omega)) ((hv.mono (kept_from hB0 hB20 (Nat.le_refl _))).wide (Nat.zero_le _) (by omega))) ?_
                    rintro _ w21 ⟨s4, rfl, hR10, H14⟩
                    obtain ⟨ps4, cs4, rfl, hl4⟩ := hR10.form
                    have hB21 := Bl.step hB20 H14
                    have hK46 := Blk.below hK43 H14
                    have hK47 := Blk.below hK44 H14
                    have hK48 := Blk.below hK45 H14
                    have hR11 := hR9.mono (kept_below H14 (by omega))
                    have hz16 := H14.size
                    refine RW.yl rfl rfl rfl (Yl.move rfl rfl) ?_
                    refine RW.yl rfl rfl rfl (Yl.extract rfl rfl rfl) ?_
                    refine RW.yl rfl rfl rfl (Yl.extract rfl rfl rfl) ?_
                    refine RW.newP (cs := #[.slice none 0 0]) (T := 24) rfl rfl rfl (Yv.alloc (z := .agg #[.slice none 0 0]) rfl zero24) ?_
                    intro b6 w22 N6
                    have ne10 := New.ne N6 hK46
                    have ne11 := New.ne N6 hK47
                    have ne12 := New.ne N6 hK48
                    have lo_b6 : w.heap.size ≤ b6 := by have := hB21.size; have := N6.num; omega
                    have hn_b6 := N6.num
                    have hs_b6 := N6.size
                    have hB22 := Bl.step hB21 N6.below
                    have hK49 := Blk.below hK46 N6.below
                    have hK50 := Blk.below hK47 N6.below
                    have hK51 := Blk.below hK48 N6.below
                    have hR12 := hR11.mono (kept_below N6.below (by omega))
                    have hR13 := hR10.mono (kept_below N6.below (by omega))
                    refine RW.stoAll (cs' := #[.slice ps4 (((parR m c).1).length) cs4]) rfl rfl N6.blk (Yu.storeAll rfl rfl rfl sz24 N6.blk rfl (by simp [Value.oneCell'])) ?_
                    intro w23 H15
                    have hB23 := Bl.sto hB22 H15 lo_b6
                    have hK52 := Blk.sto hK49 H15 ne10
                    have hK53 := Blk.sto hK50 H15 ne11
                    have hK54 := Blk.sto hK51 H15 ne12
                    have hK55 := H15.blk
                    have hR14 := hR12.mono (kept_sto H15 (by omega) (by omega))
                    have hR15 := hR13.mono (kept_sto H15 (by omega) (by omega))
                    have hz17 := H15.size
                    refine RW.yl rfl rfl rfl (Yl.assign rfl rfl) ?_
                    refine RW.nil ?_
                    change CW _ _ _ _ _ _
                    refine CW.seq ?_
                    refine CW.seq ?_
                    refine CW.region ?_
                    refine RW.yl rfl rfl rfl (Yl.move rfl rfl) ?_
                    refine RW.yl rfl rfl rfl (Yl.neq rfl rfl rfl) ?_
                    refine RW.nil ?_
                    change CW _ _ _ _ _ _
                    refine CW.cond rfl ?_ ?_
                    ·
                      intro hg9
                      have hg10 : decide (((parR m c).2) = 0) = false := not_t hg9
                      have hq11 := of_decide_eq_false hg10
                      first
                      | (exfalso; omega)
                      | (
                        refine CW.seq ?_
                        refine CW.region ?_
                        refine RW.yl rfl rfl rfl (Yl.build0 rfl rfl built24) ?_
                        refine RW.yl rfl rfl rfl (Yl.move rfl rfl) ?_
                        refine RW.stoAll (cs' := #[.slice none 0 0]) rfl rfl hK53 (Yu.storeAll rfl rfl rfl sz24 hK53 rfl (by simp [Value.oneCell'])) ?_
                        intro w24 H16
                        have hB24 := Bl.sto hB23 H16 lo_b2
                        have hK56 := Blk.sto hK52 H16 ne1
                        have hK57 := H16.blk
                        have hK58 := Blk.sto hK54 H16 ne9.symm
                        have hK59 := Blk.sto hK55 H16 ne11.symm
                        have hR16 := hR14.mono (kept_sto H16 (by omega) (by omega))
                        have hR17 := hR15.mono (kept_sto H16 (by omega) (by omega))
                        have hz18 := H16.size
                        refine RW.yl rfl rfl rfl (Yl.assign rfl rfl) ?_
                        refine RW.nil ?_
                        change CW _ _ _ _ _ _
                        refine CW.ret ?_
                        change FinQ _ _ _ _ _ _
                        refine finC1 (.inr rfl) rfl rfl (run_loadVar_many (cs := [.slice none 0 0]) many24 (Blk.cells hK57)) rfl ?_
                        have hcr : repR c n = ([], (parR m c).2) := by first | exact repR_bad (by assumption) | exact repR_rng (by assumption) (by omega) | exact repR_stop (by assumption) (by omega) (by omega) (by assumption) (by omega) (by omega) | exact repR_end (by assumption) (by omega) (by omega) (by assumption) (by omega)
                        exact ⟨_, rfl, _, by first | (rw [hcr]; done) | (rw [hcr]; rfl), by rw [hcr]; exact Sl.nil _ _ _ _, hB24⟩)
                    ·
                      intro hg11
                      have hg12 : decide (((parR m c).2) = 0) = true := not_f hg11
                      have hq13 := of_decide_eq_true hg12
                      first
                      | (exfalso; omega)
                      | (
                        refine CW.skip ?_
                        change CW _ _ _ _ _ _
                        refine CW.region ?_
                        refine RW.yl rfl rfl rfl (Yl.loadAgg (cs := [.slice ps4 (((parR m c).1).length) cs4]) rfl rfl many24 (Blk.cells hK55)) ?_
                        refine RW.stoAll (cs' := #[.slice ps4 (((parR m c).1).length) cs4]) rfl rfl hK54 (Yu.storeAll rfl rfl rfl sz24 hK54 rfl (by simp [Value.oneCell'])) ?_
                        intro w25 H17
                        have hB25 := Bl.sto hB23 H17 lo1
                        have hK60 := Blk.sto hK52 H17 ne8
                        have hK61 := Blk.sto hK53 H17 ne9
                        have hK62 := H17.blk
                        have hK63 := Blk.sto hK55 H17 ne12.symm
                        have hR18 := hR15.mono (kept_sto H17 (by omega) (by omega))
                        have hz19 := H17.size
                        refine RW.nil ?_
                        change CW _ _ _ _ _ _
                        refine CW.region ?_
                        refine RW.yl rfl rfl rfl (Yl.addN (a := k) (b := 1) rfl rfl rfl (by omega)) ?_
                        refine RW.yl rfl rfl rfl (Yl.move rfl rfl) ?_
                        refine RW.nil ?_
                        refine ⟨(k + 1, (parR m c).1, ps4, cs4), (n - 1).toNat - (k + 1), by omega, ⟨rfl, (by first | assumption | omega | rfl | (first | exact rep_init hv_c | exact rep_next (by assumption) (by omega) (by omega))), (by first | assumption | omega | rfl | (first | exact rep_init hv_c | exact rep_next (by assumption) (by omega) (by omega))), hB25, hK60, hK61, hK62, (hR18.wide (by omega) (by omega)), (by omega)⟩, Sub.cons rfl (Sub.cons rfl (Sub.cons rfl (Sub.cons rfl (Sub.cons rfl (Sub.nil)))))⟩))
                ·
                  intro hg13
                  have hq15 := of_decide_eq_false hg13
                  first
                  | (exfalso; omega)
                  | (
                    refine CW.exit ?_
                    change CW _ _ _ _ _ _
                    refine CW.seq ?_
                    refine CW.region ?_
                    refine RW.yl rfl rfl rfl (Yl.loadAgg (cs := [.slice ps m.length cs]) rfl rfl many24 (Blk.cells hK45)) ?_
                    refine RW.stoAll (cs' := #[.slice ps m.length cs]) rfl rfl hK44 (Yu.storeAll rfl rfl rfl sz24 hK44 rfl (by simp [Value.oneCell'])) ?_
                    intro w26 H18
                    have hB26 := Bl.sto hB20 H18 lo_b2
                    have hK64 := Blk.sto hK43 H18 ne1
                    have hK65 := H18.blk
                    have hK66 := Blk.sto hK45 H18 ne9.symm
                    have hR19 := hR9.mono (kept_sto H18 (by omega) (by omega))
                    have hz20 := H18.size
                    refine RW.yl rfl rfl rfl (Yl.assign rfl rfl) ?_
                    refine RW.nil ?_
                    change CW _ _ _ _ _ _
                    refine CW.ret ?_
                    change FinQ _ _ _ _ _ _
                    refine finC1 (.inr rfl) rfl rfl (run_loadVar_many (cs := [.slice ps m.length cs]) many24 (Blk.cells hK65)) rfl ?_
                    have hcr : repR c n = (m, 0) := by first | exact repR_bad (by assumption) | exact repR_rng (by assumption) (by omega) | exact repR_stop (by assumption) (by omega) (by omega) (by assumption) (by omega) (by omega) | exact repR_end (by assumption) (by omega) (by omega) (by assumption) (by omega)
                    exact ⟨_, rfl, _, by first | (rw [hcr]; done) | (rw [hcr]; rfl), by rw [hcr]; exact hR19.wide (by omega) (by omega), hB26⟩))))

end Go.Proofs.Ytodeffidnipelaa
