/- ComposeMerges. -/
import Derived.Test.YtodeffidnipelaaT19
namespace Go.Proofs.Ytodeffidnipelaa
open Go.RowKit Go.Ev

theorem ok24 : fnOk Try.prog 24 := ⟨_, Try.func24, by kernel_rfl, rfl⟩
theorem ok29 : fnOk Try.prog 29 := ⟨_, Try.func29, by kernel_rfl, rfl⟩
set_option maxHeartbeats 4000000 in
theorem c9 {w : World} {v u : Value} {c : List (List Int)} {t : List Int} (hv : RRows 0 w.heap.size w v c) (hu : RInts 0 w.heap.size w u t) :
    Calls Try.prog 9 #[.agg #[v], u] w (Ret fun r w' => r = .bool true ∧ Below w.heap.size w w') := by
  obtain ⟨p, cc, rfl, hl⟩ := hv.form
  obtain ⟨p2, ct, rfl, hl2⟩ := hu.form
  have hB0 : Below w.heap.size w w := Below.refl _ _
  refine Ev.calls (l := [.agg #[.slice p c.length cc], .slice p2 t.length ct]) Try.func9 rfl rfl rfl ?_
  change CW _ _ _ _ [(0, .agg #[.slice p c.length cc]), (1, .slice p2 t.length ct)] _
  refine CW.seq ?_
  refine CW.region ?_
  refine RW.newP (cs := #[.slice p c.length cc]) (T := 24) rfl rfl rfl (Yv.box (v := .agg #[.slice p c.length cc]) rfl rfl) ?_
  intro b1 w1 N1
  have lo_b1 : w.heap.size ≤ b1 := by have := hB0.size; have := N1.num; omega
  have hn_b1 := N1.num
  have hs_b1 := N1.size
  have hB1 := Bl.step hB0 N1.below
  refine RW.newP (cs := #[.slice p2 t.length ct]) (T := 31) rfl rfl rfl (Yv.box (v := .slice p2 t.length ct) rfl rfl) ?_
  intro b2 w2 N2
  have ne1 := New.ne N2 N1.blk
  have lo_b2 : w.heap.size ≤ b2 := by have := hB1.size; have := N2.num; omega
  have hn_b2 := N2.num
  have hs_b2 := N2.size
  have hB2 := Bl.step hB1 N2.below
  have hK1 := Blk.below N1.blk N2.below
  refine RW.yl rfl rfl rfl (Yl.assign rfl rfl) ?_
  refine RW.nil ?_
  change CW _ _ _ _ _ _
  refine CW.seq ?_
  refine CW.seq ?_
  refine CW.region ?_
  refine RW.fn rfl rfl rfl (Yc.func #[] rfl ok12 (args0)) (c12) ?_
  rintro _ w3 ⟨rfl, H1⟩
  have hB3 := Bl.step hB2 H1
  have hK2 := Blk.below hK1 H1
  have hK3 := Blk.below N2.blk H1
  have hz1 := H1.size
  refine RW.yl rfl rfl rfl (Yl.not rfl rfl) ?_
  refine RW.nil ?_
  change CW _ _ _ _ _ _
  refine CW.condF rfl ?_
  refine CW.skip ?_
  change CW _ _ _ _ _ _
  refine CW.seq ?_
  refine CW.seq ?_
  rcases Bool.eq_false_or_eq_true (smallB c 20) with hg1 | hg1
  ·
    first
    | (exfalso; omega)
    | (
      refine CW.region ?_
      refine RW.yl rfl rfl rfl (Yl.loadAgg (cs := [.slice p c.length cc]) rfl rfl many24 (Blk.cells hK2)) ?_
      refine RW.fn rfl rfl rfl (Yc.func #[.agg #[.slice p c.length cc], .int .i64 20] rfl ok13 (args2 rfl rfl)) (c13 ((hv.mono (kept_from hB0 hB3 (Nat.le_refl _))).wide (Nat.zero_le _) (by omega))) ?_
      rintro _ w4 ⟨rfl, H2⟩
      have hB4 := Bl.step hB3 H2
      have hK4 := Blk.below hK2 H2
      have hK5 := Blk.below hK3 H2
      have hz2 := H2.size
      rw [hg1]
      refine RW.yl rfl rfl rfl (Yl.not rfl rfl) ?_
      refine RW.yl rfl rfl rfl (Yl.move rfl rfl) ?_
      refine RW.yl rfl rfl rfl (Yl.load rfl rfl one31 (Blk.cell hK5 rfl)) ?_
      refine RW.yl rfl rfl rfl (Yl.len rfl rfl Try.underlying31) ?_
      refine RW.yl rfl rfl rfl (Yl.gtr rfl rfl rfl) ?_
      refine RW.yl rfl rfl rfl (Yl.pickF rfl rfl rfl) ?_
      refine RW.nil ?_
      change CW _ _ _ _ _ _
      refine CW.cond rfl ?_ ?_
      ·
        intro hg2
        have hq3 := of_decide_eq_true hg2
        first
        | (exfalso; omega)
        | (
          refine CW.seq ?_
          refine CW.region ?_
          refine RW.yl rfl rfl rfl (Yl.assign rfl rfl) ?_
          refine RW.nil ?_
          change CW _ _ _ _ _ _
          refine CW.ret ?_
          change FinQ _ _ _ _ _ _
          refine fin1 (.inr rfl) rfl rfl ?_
          exact ⟨_, rfl, bval (by first | rfl | exact decide_eq_true (by omega) | exact decide_eq_true (by assumption)), hB4⟩)
      ·
        intro hg3
        have hq5 := of_decide_eq_false hg3
        first
        | (exfalso; omega)
        | (
          refine CW.skip ?_
          change CW _ _ _ _ _ _
          refine CW.seq ?_
          refine CW.region ?_
          refine RW.yl rfl rfl rfl (Yl.loadAgg (cs := [.slice p c.length cc]) rfl rfl many24 (Blk.cells hK4)) ?_
          refine RW.yl rfl rfl rfl (Yl.load rfl rfl one31 (Blk.cell hK5 rfl)) ?_
          refine RW.fn rfl rfl rfl (Yc.func #[.agg #[.slice p c.length cc], .slice p2 t.length ct] rfl ok29 (args2 rfl rfl)) (c29 ((hv.mono (kept_from hB0 hB4 (Nat.le_refl _))).wide (Nat.zero_le _) (by omega)) ((hu.mono (kept_from hB0 hB4 (Nat.le_refl _))).wide (Nat.zero_le _) (by omega))) ?_
          rintro _ w5 ⟨s1, rfl, hR1, H3⟩
          obtain ⟨ps1, cs1, rfl, hl1⟩ := hR1.form
          have hB5 := Bl.step hB4 H3
          have hK6 := Blk.below hK4 H3
          have hK7 := Blk.below hK5 H3
          have hz3 := H3.size
          refine RW.yl rfl rfl rfl (Yl.move rfl rfl) ?_
          refine RW.yl rfl rfl rfl (Yl.extract rfl rfl rfl) ?_
          refine RW.yl rfl rfl rfl (Yl.extract rfl rfl rfl) ?_
          refine RW.newP (cs := #[.slice none 0 0]) (T := 24) rfl rfl rfl (Yv.alloc (z := .agg #[.slice none 0 0]) rfl zero24) ?_
          intro b3 w6 N3
          have ne2 := New.ne N3 hK6
          have ne3 := New.ne N3 hK7
          have lo_b3 : w.heap.size ≤ b3 := by have := hB5.size; have := N3.num; omega
          have hn_b3 := N3.num
          have hs_b3 := N3.size
          have hB6 := Bl.step hB5 N3.below
          have hK8 := Blk.below hK6 N3.below
          have hK9 := Blk.below hK7 N3.below
          have hR2 := hR1.mono (kept_below N3.below (by omega))
          refine RW.stoAll (cs' := #[.slice ps1 (((mergeR c t).1).length) cs1]) rfl rfl N3.blk (Yu.storeAll rfl rfl rfl sz24 N3.blk rfl (by simp [Value.oneCell'])) ?_
          intro w7 H4
          have hB7 := Bl.sto hB6 H4 lo_b3
          have hK10 := Blk.sto hK8 H4 ne2
          have hK11 := Blk.sto hK9 H4 ne3
          have hK12 := H4.blk
          have hR3 := hR2.mono (kept_sto H4 (by omega) (by omega))
          have hz4 := H4.size
          refine RW.yl rfl rfl rfl (Yl.assign rfl rfl) ?_
          refine RW.nil ?_
          change CW _ _ _ _ _ _
          refine CW.seq ?_
          refine CW.region ?_
          refine RW.yl rfl rfl rfl (Yl.assign rfl rfl) ?_
          refine RW.nil ?_
          change CW _ _ _ _ _ _
          refine CW.seq ?_
          refine CW.seq ?_
          refine CW.region ?_
          refine RW.yl rfl rfl rfl (Yl.loadAgg (cs := [.slice p c.length cc]) rfl rfl many24 (Blk.cells hK10)) ?_
          refine RW.fn rfl rfl rfl (Yc.func #[.agg #[.slice p c.length cc]] rfl ok15 (args1 rfl)) (c15 ((hv.mono (kept_from hB0 hB7 (Nat.le_refl _))).wide (Nat.zero_le _) (by omega))) ?_
          rintro _ w8 ⟨rfl, H5⟩
          have hB8 := Bl.step hB7 H5
          have hK13 := Blk.below hK10 H5
          have hK14 := Blk.below hK11 H5
          have hK15 := Blk.below hK12 H5
          have hR4 := hR3.mono (kept_below H5 (by omega))
          have hz5 := H5.size
          refine RW.yl rfl rfl rfl (Yl.not rfl rfl) ?_
          refine RW.nil ?_
          change CW _ _ _ _ _ _
          refine CW.cond rfl ?_ ?_
          ·
            intro hg4
            have hg5 : validB c = false := not_t hg4
            have hk : mergeR c t = ([], 1) := mergeR_bad hg5
            have hk1 : (mergeR c t).1 = [] := by rw [hk]
            have hk2 : (mergeR c t).2 = 1 := by rw [hk]
            have hk3 : (mergeR c t).1.length = 0 := by rw [hk]; rfl
            first
            | (exfalso; omega)
            | (
              refine CW.region ?_
              refine RW.yl rfl rfl rfl (Yl.assign rfl rfl) ?_
              refine RW.nil ?_
              change CW _ _ _ _ _ _
              refine CW.seq ?_
              refine CW.seq ?_
              refine CW.region ?_
              refine RW.yl rfl rfl rfl (Yl.move rfl rfl) ?_
              refine RW.yl rfl rfl rfl (Yl.eqb (Yl.neq rfl rfl rfl) (show (!decide ((1 : Int) = 0)) = true by decide)) ?_
              refine RW.nil ?_
              change CW _ _ _ _ _ _
              refine CW.condT rfl ?_
              refine CW.seq ?_
              rcases Bool.eq_false_or_eq_true (decide (((mergeR c t).2) = 1)) with hg6 | hg6
              ·
                have hq7 := of_decide_eq_true hg6
                first
                | (exfalso; omega)
                | (
                  refine CW.region ?_
                  refine RW.yl rfl rfl rfl (Yl.move rfl rfl) ?_
                  refine RW.yl rfl rfl rfl (Yl.move rfl rfl) ?_
                  refine RW.yl rfl rfl rfl (Yl.eqb (Yl.eql rfl rfl rfl) hg6) ?_
                  refine RW.yl rfl rfl rfl (Yl.move rfl rfl) ?_
                  refine RW.yl rfl rfl rfl (Yl.loadAgg (cs := [.slice ps1 (((mergeR c t).1).length) cs1]) rfl rfl many24 (Blk.cells hK15)) ?_
                  refine RW.fn rfl rfl rfl (Yc.func #[.agg #[.slice ps1 (((mergeR c t).1).length) cs1]] rfl ok18 (args1 rfl)) (c18 (hR4.wide (Nat.zero_le _) (by omega))) ?_
                  rintro _ w9 ⟨rfl, H6⟩
                  have hB9 := Bl.step hB8 H6
                  have hK16 := Blk.below hK13 H6
                  have hK17 := Blk.below hK14 H6
                  have hK18 := Blk.below hK15 H6
                  have hR5 := hR4.mono (kept_below H6 (by omega))
                  have hz6 := H6.size
                  refine RW.yl rfl rfl rfl (Yl.pickT rfl rfl rfl) ?_
                  refine RW.yl rfl rfl rfl (Yl.assign rfl rfl) ?_
                  refine RW.nil ?_
                  change CW _ _ _ _ _ _
                  refine CW.ret ?_
                  change FinQ _ _ _ _ _ _
                  refine fin1 (.inr rfl) rfl rfl ?_
                  exact ⟨_, rfl, bval (by first | rfl | exact decide_eq_true (by omega) | exact decide_eq_true (by assumption)), hB9⟩)
              ·
                have hq7 := of_decide_eq_false hg6
                first
                | (exfalso; omega)
                | (
                  refine CW.region ?_
                  refine RW.yl rfl rfl rfl (Yl.move rfl rfl) ?_
                  refine RW.yl rfl rfl rfl (Yl.move rfl rfl) ?_
                  refine RW.yl rfl rfl rfl (Yl.eqb (Yl.eql rfl rfl rfl) hg6) ?_
                  refine RW.yl rfl rfl rfl (Yl.move rfl rfl) ?_
                  refine RW.skip rfl rfl rfl ?_
                  refine RW.skip rfl rfl rfl ?_
                  refine RW.yl rfl rfl rfl (Yl.pickF rfl rfl rfl) ?_
                  refine RW.yl rfl rfl rfl (Yl.assign rfl rfl) ?_
                  refine RW.nil ?_
                  change CW _ _ _ _ _ _
                  refine CW.ret ?_
                  change FinQ _ _ _ _ _ _
                  refine fin1 (.inr rfl) rfl rfl ?_
                  exact ⟨_, rfl, bval (by first | rfl | exact decide_eq_true (by omega) | exact decide_eq_true (by assumption)), hB8⟩))
          ·
            intro hg7
            have hg8 : validB c = true := not_f hg7
            have hv_c : validB c = true := hg8
            have ht_c := totG_bounds hv_c
            have hcc_c := validB_chan hv_c
            have hr1_c := hcc_c.r1
            have hr2_c := hcc_c.r2
            have hc1_c := hcc_c.c1
            have hc2_c := hcc_c.c2
            first
            | (exfalso; omega)
            | (
              refine CW.seq ?_
              refine CW.draw 8 rfl (Kp []) (by kernel_rfl) ?_
              intro w10 H7
              have hB10 := Bl.step hB8 H7
              have hK19 := Blk.below hK13 H7
              have hK20 := Blk.below hK14 H7
              have hK21 := Blk.below hK15 H7
              have hR6 := hR4.mono (kept_below H7 (by omega))
              have hz7 := H7.size
              have hS1 := Kp.refl [] w10
              refine RH.take 0 rfl (by kernel_rfl) rfl rfl rfl hS1 (fun W1 hW1 => Yl.load rfl rfl one31 (Blk.cell (Kp.blk hW1 hK20 (by simp)) rfl)) ?_
              refine RH.take 1 rfl (by kernel_rfl) rfl rfl rfl hS1 (fun W2 hW2 => Yl.len rfl rfl Try.underlying31) ?_
              refine RH.take 2 rfl (by kernel_rfl) rfl rfl rfl hS1 (fun W3 hW3 => Yl.fieldAddr rfl rfl Try.underlying24 rfl sz22) ?_
              refine RH.take 3 rfl (by kernel_rfl) rfl rfl rfl hS1 (fun W4 hW4 => Yl.load rfl rfl one22 (Blk.cell (Kp.blk hW4 hK19 (by simp)) rfl)) ?_
              obtain ⟨bx1, ox1, px1, cx1, hp1, hl2, hh1, hc1, hx1, hn1⟩ := (hv.mono (kept_from hB0 hB10 (Nat.le_refl _))).at 0 (by omega)
              refine RH.take 4 rfl (by kernel_rfl) rfl rfl rfl hS1 (fun W5 hW5 => Yl.indexAddr1 (k := 0) rfl rfl rfl Try.underlying22 sz31 hp1 rfl (by omega)) ?_
              refine RH.take 5 rfl (by kernel_rfl) rfl rfl rfl hS1 (fun W6 hW6 => Yl.load rfl rfl one31 (Kp.cell hW6 hc1 (by simp))) ?_
              refine RH.take 6 rfl (by kernel_rfl) rfl rfl rfl hS1 (fun W7 hW7 => Yl.len rfl rfl Try.underlying31) ?_
              refine RH.take 7 rfl (by kernel_rfl) rfl rfl rfl hS1 (fun W8 hW8 => Yl.neq rfl rfl rfl) ?_
              refine RH.done (by kernel_rfl) ?_
              change CW _ _ _ _ _ _
              refine CW.cond rfl ?_ ?_
              ·
                intro hg9
                have hg10 : decide (((t.length : Nat) : Int) = (((c[0]!).length : Nat) : Int)) = false := not_t hg9
                have hq10 := of_decide_eq_false hg10
                have hk : mergeR c t = ([], 2) := mergeR_len hv_c (by omega)
                have hk1 : (mergeR c t).1 = [] := by rw [hk]
                have hk2 : (mergeR c t).2 = 2 := by rw [hk]
                have hk3 : (mergeR c t).1.length = 0 := by rw [hk]; rfl
                first
                | (exfalso; omega)
                | (
                  refine CW.region ?_
                  refine RW.yl rfl rfl rfl (Yl.assign rfl rfl) ?_
                  refine RW.nil ?_
                  change CW _ _ _ _ _ _
                  refine CW.seq ?_
                  refine CW.seq ?_
                  refine CW.region ?_
                  refine RW.yl rfl rfl rfl (Yl.move rfl rfl) ?_
                  refine RW.yl rfl rfl rfl (Yl.eqb (Yl.neq rfl rfl rfl) (show (!decide ((2 : Int) = 0)) = true by decide)) ?_
                  refine RW.nil ?_
                  change CW _ _ _ _ _ _
                  refine CW.condT rfl ?_
                  refine CW.seq ?_
                  rcases Bool.eq_false_or_eq_true (decide (((mergeR c t).2) = 2)) with hg11 | hg11
                  ·
                    have hq11 := of_decide_eq_true hg11
                    first
                    | (exfalso; omega)
                    | (
                      refine CW.region ?_
                      refine RW.yl rfl rfl rfl (Yl.move rfl rfl) ?_
                      refine RW.yl rfl rfl rfl (Yl.move rfl rfl) ?_
                      refine RW.yl rfl rfl rfl (Yl.eqb (Yl.eql rfl rfl rfl) hg11) ?_
                      refine RW.yl rfl rfl rfl (Yl.move rfl rfl) ?_
                      refine RW.yl rfl rfl rfl (Yl.loadAgg (cs := [.slice ps1 (((mergeR c t).1).length) cs1]) rfl rfl many24 (Blk.cells hK21)) ?_
                      refine RW.fn rfl rfl rfl (Yc.func #[.agg #[.slice ps1 (((mergeR c t).1).length) cs1]] rfl ok18 (args1 rfl)) (c18 (hR6.wide (Nat.zero_le _) (by omega))) ?_
                      rintro _ w11 ⟨rfl, H8⟩
                      have hB11 := Bl.step hB10 H8
                      have hK22 := Blk.below hK19 H8
                      have hK23 := Blk.below hK20 H8
                      have hK24 := Blk.below hK21 H8
                      have hR7 := hR6.mono (kept_below H8 (by omega))
                      have hz8 := H8.size
                      refine RW.yl rfl rfl rfl (Yl.pickT rfl rfl rfl) ?_
                      refine RW.yl rfl rfl rfl (Yl.assign rfl rfl) ?_
                      refine RW.nil ?_
                      change CW _ _ _ _ _ _
                      refine CW.ret ?_
                      change FinQ _ _ _ _ _ _
                      refine fin1 (.inr rfl) rfl rfl ?_
                      exact ⟨_, rfl, bval (by first | rfl | exact decide_eq_true (by omega) | exact decide_eq_true (by assumption)), hB11⟩)
                  ·
                    have hq11 := of_decide_eq_false hg11
                    first
                    | (exfalso; omega)
                    | (
                      refine CW.region ?_
                      refine RW.yl rfl rfl rfl (Yl.move rfl rfl) ?_
                      refine RW.yl rfl rfl rfl (Yl.move rfl rfl) ?_
                      refine RW.yl rfl rfl rfl (Yl.eqb (Yl.eql rfl rfl rfl) hg11) ?_
                      refine RW.yl rfl rfl rfl (Yl.move rfl rfl) ?_
                      refine RW.skip rfl rfl rfl ?_
                      refine RW.skip rfl rfl rfl ?_
                      refine RW.yl rfl rfl rfl (Yl.pickF rfl rfl rfl) ?_
                      refine RW.yl rfl rfl rfl (Yl.assign rfl rfl) ?_
                      refine RW.nil ?_
                      change CW _ _ _ _ _ _
                      refine CW.ret ?_
                      change FinQ _ _ _ _ _ _
                      refine fin1 (.inr rfl) rfl rfl ?_
                      exact ⟨_, rfl, bval (by first | rfl | exact decide_eq_true (by omega) | exact decide_eq_true (by assumption)), hB10⟩))
              ·
                intro hg12
                have hg13 : decide (((t.length : Nat) : Int) = (((c[0]!).length : Nat) : Int)) = true := not_f hg12
                have hq13 := of_decide_eq_true hg13
                have hlen : t.length = (c[0]!).length := by omega
                first
                | (exfalso; omega)
                | (
                  refine CW.seq ?_
                  refine CW.region ?_
                  refine RW.yl rfl rfl rfl (Yl.load rfl rfl one31 (Blk.cell hK20 rfl)) ?_
                  refine RW.yl rfl rfl rfl (Yl.func #[.pointer (some ⟨b2, 0, none⟩)] rfl rfl (args1 rfl)) ?_
                  refine RW.fn rfl rfl rfl (Yc.func #[.slice p2 t.length ct, .func (.func 31) #[] #[.pointer (some ⟨b2, 0, none⟩)]] rfl ok30 (args2 rfl rfl)) (c30_31 ((hu.mono (kept_from hB0 hB10 (Nat.le_refl _))).wide (Nat.zero_le _) (by omega)) (g := fun n => decide (n < 0 ∨ (t.length : Int) ≤ n)) (fun hb => c31 (Blk.below hK20 hb) ((((hu.mono (kept_from hB0 hB10 (Nat.le_refl _))).wide (Nat.zero_le _) (by omega)).mono (kept_below hb (Nat.le_refl _))).wide (Nat.zero_le _) hb.size))) ?_
                  rintro _ w12 ⟨rfl, H9⟩
                  have hB12 := Bl.step hB10 H9
                  have hK25 := Blk.below hK19 H9
                  have hK26 := Blk.below hK20 H9
                  have hK27 := Blk.below hK21 H9
                  have hR8 := hR6.mono (kept_below H9 (by omega))
                  have hz9 := H9.size
                  refine RW.nil ?_
                  change CW _ _ _ _ _ _
                  refine CW.cond rfl ?_ ?_
                  ·
                    intro hg14
                    have hk : mergeR c t = ([], 3) := mergeR_out hv_c hlen (by rw [← hlen]; exact hg14)
                    have hk1 : (mergeR c t).1 = [] := by rw [hk]
                    have hk2 : (mergeR c t).2 = 3 := by rw [hk]
                    have hk3 : (mergeR c t).1.length = 0 := by rw [hk]; rfl
                    first
                    | (exfalso; omega)
                    | (
                      refine CW.region ?_
                      refine RW.yl rfl rfl rfl (Yl.assign rfl rfl) ?_
                      refine RW.nil ?_
                      change CW _ _ _ _ _ _
                      refine CW.seq ?_
                      refine CW.seq ?_
                      refine CW.region ?_
                      refine RW.yl rfl rfl rfl (Yl.move rfl rfl) ?_
                      refine RW.yl rfl rfl rfl (Yl.eqb (Yl.neq rfl rfl rfl) (show (!decide ((3 : Int) = 0)) = true by decide)) ?_
                      refine RW.nil ?_
                      change CW _ _ _ _ _ _
                      refine CW.condT rfl ?_
                      refine CW.seq ?_
                      rcases Bool.eq_false_or_eq_true (decide (((mergeR c t).2) = 3)) with hg15 | hg15
                      ·
                        have hq15 := of_decide_eq_true hg15
                        first
                        | (exfalso; omega)
                        | (
                          refine CW.region ?_
                          refine RW.yl rfl rfl rfl (Yl.move rfl rfl) ?_
                          refine RW.yl rfl rfl rfl (Yl.move rfl rfl) ?_
                          refine RW.yl rfl rfl rfl (Yl.eqb (Yl.eql rfl rfl rfl) hg15) ?_
                          refine RW.yl rfl rfl rfl (Yl.move rfl rfl) ?_
                          refine RW.yl rfl rfl rfl (Yl.loadAgg (cs := [.slice ps1 (((mergeR c t).1).length) cs1]) rfl rfl many24 (Blk.cells hK27)) ?_
                          refine RW.fn rfl rfl rfl (Yc.func #[.agg #[.slice ps1 (((mergeR c t).1).length) cs1]] rfl ok18 (args1 rfl)) (c18 (hR8.wide (Nat.zero_le _) (by omega))) ?_
                          rintro _ w13 ⟨rfl, H10⟩
                          have hB13 := Bl.step hB12 H10
                          have hK28 := Blk.below hK25 H10
                          have hK29 := Blk.below hK26 H10
                          have hK30 := Blk.below hK27 H10
                          have hR9 := hR8.mono (kept_below H10 (by omega))
                          have hz10 := H10.size
                          refine RW.yl rfl rfl rfl (Yl.pickT rfl rfl rfl) ?_
                          refine RW.yl rfl rfl rfl (Yl.assign rfl rfl) ?_
                          refine RW.nil ?_
                          change CW _ _ _ _ _ _
                          refine CW.ret ?_
                          change FinQ _ _ _ _ _ _
                          refine fin1 (.inr rfl) rfl rfl ?_
                          exact ⟨_, rfl, bval (by first | rfl | exact decide_eq_true (by omega) | exact decide_eq_true (by assumption)), hB13⟩)
                      ·
                        have hq15 := of_decide_eq_false hg15
                        first
                        | (exfalso; omega)
                        | (
                          refine CW.region ?_
                          refine RW.yl rfl rfl rfl (Yl.move rfl rfl) ?_
                          refine RW.yl rfl rfl rfl (Yl.move rfl rfl) ?_
                          refine RW.yl rfl rfl rfl (Yl.eqb (Yl.eql rfl rfl rfl) hg15) ?_
                          refine RW.yl rfl rfl rfl (Yl.move rfl rfl) ?_
                          refine RW.skip rfl rfl rfl ?_
                          refine RW.skip rfl rfl rfl ?_
                          refine RW.yl rfl rfl rfl (Yl.pickF rfl rfl rfl) ?_
                          refine RW.yl rfl rfl rfl (Yl.assign rfl rfl) ?_
                          refine RW.nil ?_
                          change CW _ _ _ _ _ _
                          refine CW.ret ?_
                          change FinQ _ _ _ _ _ _
                          refine fin1 (.inr rfl) rfl rfl ?_
                          exact ⟨_, rfl, bval (by first | rfl | exact decide_eq_true (by omega) | exact decide_eq_true (by assumption)), hB12⟩))
                  ·
                    intro hg16
                    have hout : outB (((c[0]!).length : Nat) : Int) t = false := by rw [← hlen]; exact hg16
                    obtain ⟨hv_d, hcas, hmc, hv_p0, hwle⟩ := merge_facts hv_c hlen hout
                    have hk : mergeR c t = ((mergeT c t), 0) := mergeR_ok hv_c hlen hout
                    have hk1 : (mergeR c t).1 = (mergeT c t) := by rw [hk]
                    have hk2 : (mergeR c t).2 = 0 := by rw [hk]
                    have hcas2 : cascR c (detT t) = (mergeT c t, 0) := by rw [hmc]; exact hcas
                    have hv_p : validB ((mergeR c t).1) = true := by rw [hk1]; exact hv_p0
                    rw [← hk1] at hwle
                    have hdl : (tab (t.length) (t.length) (fun x y => if t[x]! = ((y : Nat) : Int) then 1 else 0)).length = t.length := tab_length _ _ _
                    have hkq1 : decide ((mergeR c t).1 = cascT c (tab (t.length) (t.length) (fun x y => if t[x]! = ((y : Nat) : Int) then 1 else 0))) = true := decide_eq_true (by rw [hk1]; exact hmc)
                    have hkq2 : decide ((mergeR c t).1 = (mergeT c t)) = true := decide_eq_true hk1
                    first
                    | (exfalso; omega)
                    | (
                      refine CW.skip ?_
                      change CW _ _ _ _ _ _
                      refine CW.seq ?_
                      refine CW.seq ?_
                      refine CW.region ?_
                      refine RW.yl rfl rfl rfl (Yl.move rfl rfl) ?_
                      refine RW.yl rfl rfl rfl (Yl.eqb (Yl.neq rfl rfl rfl) (show (!decide ((0 : Int) = 0)) = false by decide)) ?_
                      refine RW.nil ?_
                      change CW _ _ _ _ _ _
                      refine CW.condF rfl ?_
                      refine CW.skip ?_
                      change CW _ _ _ _ _ _
                      refine CW.seq ?_
                      refine CW.region ?_
                      refine RW.yl rfl rfl rfl (Yl.load rfl rfl one31 (Blk.cell hK26 rfl)) ?_
                      refine RW.yl rfl rfl rfl (Yl.len rfl rfl Try.underlying31) ?_
                      refine RW.yl rfl rfl rfl (Yl.assign rfl rfl) ?_
                      refine RW.nil ?_
                      change CW _ _ _ _ _ _
                      refine CW.seq ?_
                      refine CW.region ?_
                      refine RW.yl rfl rfl rfl (Yl.move rfl rfl) ?_
                      refine RW.yl rfl rfl rfl (Yl.move rfl rfl) ?_
                      refine RW.yl rfl rfl rfl (Yl.func #[.pointer (some ⟨b2, 0, none⟩)] rfl rfl (args1 rfl)) ?_
                      refine RW.fn rfl rfl rfl (Yc.func #[.int .i64 ((t.length : Nat) : Int), .int .i64 ((t.length : Nat) : Int), .func (.func 32) #[] #[.pointer (some ⟨b2, 0, none⟩)]] rfl ok27 (args3 rfl rfl rfl)) (c27_32 (f := fun x y => if t[x]! = ((y : Nat) : Int) then 1 else 0) (fun hx hy hb => c32 (Blk.below hK26 hb) ((((hu.mono (kept_from hB0 hB12 (Nat.le_refl _))).wide (Nat.zero_le _) (by omega)).mono (kept_below hb (Nat.le_refl _))).wide (Nat.zero_le _) hb.size) hx) (by omega) (by omega)) ?_
                      rintro _ w14 ⟨s2, rfl, hR10, H11⟩
                      obtain ⟨ps2, cs2, rfl, hl3⟩ := hR10.form
                      have hB14 := Bl.step hB12 H11
                      have hK31 := Blk.below hK25 H11
                      have hK32 := Blk.below hK26 H11
                      have hK33 := Blk.below hK27 H11
                      have hR11 := hR8.mono (kept_below H11 (by omega))
                      have hz11 := H11.size
                      refine RW.newP (cs := #[.slice none 0 0]) (T := 24) rfl rfl rfl (Yv.alloc (z := .agg #[.slice none 0 0]) rfl zero24) ?_
                      intro b4 w15 N4
                      have ne4 := New.ne N4 hK31
                      have ne5 := New.ne N4 hK32
                      have ne6 := New.ne N4 hK33
                      have lo_b4 : w.heap.size ≤ b4 := by have := hB14.size; have := N4.num; omega
                      have hn_b4 := N4.num
                      have hs_b4 := N4.size
                      have hB15 := Bl.step hB14 N4.below
                      have hK34 := Blk.below hK31 N4.below
                      have hK35 := Blk.below hK32 N4.below
                      have hK36 := Blk.below hK33 N4.below
                      have hR12 := hR11.mono (kept_below N4.below (by omega))
                      have hR13 := hR10.mono (kept_below N4.below (by omega))
                      refine RW.stoAll (cs' := #[.slice ps2 ((tab (t.length) (t.length) (fun x y => if t[x]! = ((y : Nat) : Int) then 1 else 0)).length) cs2]) rfl rfl N4.blk (Yu.storeAll rfl rfl rfl sz24 N4.blk rfl (by simp [Value.oneCell'])) ?_
                      intro w16 H12
                      have hB16 := Bl.sto hB15 H12 lo_b4
                      have hK37 := Blk.sto hK34 H12 ne4
                      have hK38 := Blk.sto hK35 H12 ne5
                      have hK39 := Blk.sto hK36 H12 ne6
                      have hK40 := H12.blk
                      have hR14 := hR12.mono (kept_sto H12 (by omega) (by omega))
                      have hR15 := hR13.mono (kept_sto H12 (by omega) (by omega))
                      have hz12 := H12.size
                      refine RW.nil ?_
                      change CW _ _ _ _ _ _
                      refine CW.seq ?_
                      refine CW.region ?_
                      refine RW.yl rfl rfl rfl (Yl.loadAgg (cs := [.slice p c.length cc]) rfl rfl many24 (Blk.cells hK37)) ?_
                      refine RW.yl rfl rfl rfl (Yl.loadAgg (cs := [.slice ps2 ((tab (t.length) (t.length) (fun x y => if t[x]! = ((y : Nat) : Int) then 1 else 0)).length) cs2]) rfl rfl many24 (Blk.cells hK40)) ?_
                      refine RW.fn rfl rfl rfl (Yc.func #[.agg #[.slice p c.length cc], .agg #[.slice ps2 ((tab (t.length) (t.length) (fun x y => if t[x]! = ((y : Nat) : Int) then 1 else 0)).length) cs2]] rfl ok14 (args2 rfl rfl)) (c14r ((hv.mono (kept_from hB0 hB16 (Nat.le_refl _))).wide (Nat.zero_le _) (by omega)) (hR15.wide (Nat.zero_le _) (by omega)) hcas2) ?_
                      rintro _ w17 ⟨s3, rfl, hR16, H13⟩
                      obtain ⟨ps3, cs3, rfl, hl4⟩ := hR16.form
                      have hB17 := Bl.step hB16 H13
                      have hK41 := Blk.below hK37 H13
                      have hK42 := Blk.below hK38 H13
                      have hK43 := Blk.below hK39 H13
                      have hK44 := Blk.below hK40 H13
                      have hR17 := hR14.mono (kept_below H13 (by omega))
                      have hR18 := hR15.mono (kept_below H13 (by omega))
                      have hz13 := H13.size
                      refine RW.yl rfl rfl rfl (Yl.move rfl rfl) ?_
                      refine RW.yl rfl rfl rfl (Yl.extract rfl rfl rfl) ?_
                      refine RW.yl rfl rfl rfl (Yl.extract rfl rfl rfl) ?_
                      refine RW.newP (cs := #[.slice none 0 0]) (T := 24) rfl rfl rfl (Yv.alloc (z := .agg #[.slice none 0 0]) rfl zero24) ?_
                      intro b5 w18 N5
                      have ne7 := New.ne N5 hK41
                      have ne8 := New.ne N5 hK42
                      have ne9 := New.ne N5 hK43
                      have ne10 := New.ne N5 hK44
                      have lo_b5 : w.heap.size ≤ b5 := by have := hB17.size; have := N5.num; omega
                      have hn_b5 := N5.num
                      have hs_b5 := N5.size
                      have hB18 := Bl.step hB17 N5.below
                      have hK45 := Blk.below hK41 N5.below
                      have hK46 := Blk.below hK42 N5.below
                      have hK47 := Blk.below hK43 N5.below
                      have hK48 := Blk.below hK44 N5.below
                      have hR19 := hR17.mono (kept_below N5.below (by omega))
                      have hR20 := hR18.mono (kept_below N5.below (by omega))
                      have hR21 := hR16.mono (kept_below N5.below (by omega))
                      refine RW.stoAll (cs' := #[.slice ps3 ((mergeT c t).length) cs3]) rfl rfl N5.blk (Yu.storeAll rfl rfl rfl sz24 N5.blk rfl (by simp [Value.oneCell'])) ?_
                      intro w19 H14
                      have hB19 := Bl.sto hB18 H14 lo_b5
                      have hK49 := Blk.sto hK45 H14 ne7
                      have hK50 := Blk.sto hK46 H14 ne8
                      have hK51 := Blk.sto hK47 H14 ne9
                      have hK52 := Blk.sto hK48 H14 ne10
                      have hK53 := H14.blk
                      have hR22 := hR19.mono (kept_sto H14 (by omega) (by omega))
                      have hR23 := hR20.mono (kept_sto H14 (by omega) (by omega))
                      have hR24 := hR21.mono (kept_sto H14 (by omega) (by omega))
                      have hz14 := H14.size
                      refine RW.yl rfl rfl rfl (Yl.assign rfl rfl) ?_
                      refine RW.nil ?_
                      change CW _ _ _ _ _ _
                      refine CW.seq ?_
                      rcases Bool.eq_false_or_eq_true (decide (((mergeR c t).2) = 0)) with hg17 | hg17
                      ·
                        have hq17 := of_decide_eq_true hg17
                        first
                        | (exfalso; omega)
                        | (
                          refine CW.draw 26 rfl (Kp []) (by kernel_rfl) ?_
                          intro w20 H15
                          have hB20 := Bl.step hB19 H15
                          have hK54 := Blk.below hK49 H15
                          have hK55 := Blk.below hK50 H15
                          have hK56 := Blk.below hK51 H15
                          have hK57 := Blk.below hK52 H15
                          have hK58 := Blk.below hK53 H15
                          have hR25 := hR22.mono (kept_below H15 (by omega))
                          have hR26 := hR23.mono (kept_below H15 (by omega))
                          have hR27 := hR24.mono (kept_below H15 (by omega))
                          have hz15 := H15.size
                          have hS2 := Kp.refl [] w20
                          refine RH.take 0 rfl (by kernel_rfl) rfl rfl rfl hS2 (fun W9 hW9 => Yl.move rfl rfl) ?_
                          refine RH.take 1 rfl (by kernel_rfl) rfl rfl rfl hS2 (fun W10 hW10 => Yl.eqb (Yl.eql rfl rfl rfl) hg17) ?_
                          refine RH.take 2 rfl (by kernel_rfl) rfl rfl rfl hS2 (fun W11 hW11 => Yl.move rfl rfl) ?_
                          refine RH.take 3 rfl (by kernel_rfl) rfl rfl rfl hS2 (fun W12 hW12 => Yl.move rfl rfl) ?_
                          refine RH.take 4 rfl (by kernel_rfl) rfl rfl rfl hS2 (fun W13 hW13 => Yl.eqb (Yl.eql rfl rfl rfl) (show (decide ((0 : Int) = 0)) = true by decide)) ?_
                          refine RH.take 5 rfl (by kernel_rfl) rfl rfl rfl hS2 (fun W14 hW14 => Yl.pickT rfl rfl rfl) ?_
                          refine RH.take 6 rfl (by kernel_rfl) rfl rfl rfl hS2 (fun W15 hW15 => Yl.move rfl rfl) ?_
                          refine RH.take 7 rfl (by kernel_rfl) rfl rfl rfl hS2 (fun W16 hW16 => Yl.loadAgg (cs := [.slice ps1 (((mergeR c t).1).length) cs1]) rfl rfl many24 (Blk.cells (Kp.blk hW16 hK56 (by simp)))) ?_
                          refine RH.take 8 rfl (by kernel_rfl) rfl rfl rfl hS2 (fun W17 hW17 => Yl.loadAgg (cs := [.slice p c.length cc]) rfl rfl many24 (Blk.cells (Kp.blk hW17 hK54 (by simp)))) ?_
                          refine RH.take 9 rfl (by kernel_rfl) rfl rfl rfl hS2 (fun W18 hW18 => Yl.loadAgg (cs := [.slice ps2 ((tab (t.length) (t.length) (fun x y => if t[x]! = ((y : Nat) : Int) then 1 else 0)).length) cs2]) rfl rfl many24 (Blk.cells (Kp.blk hW18 hK57 (by simp)))) ?_
                          refine RH.one 10 (by kernel_rfl) ?_
                          refine RO.fn rfl rfl rfl rfl (Yc.func #[.agg #[.slice p c.length cc], .agg #[.slice ps2 ((tab (t.length) (t.length) (fun x y => if t[x]! = ((y : Nat) : Int) then 1 else 0)).length) cs2]] rfl ok20 (args2 rfl rfl)) (c20 ((hv.mono (kept_from hB0 hB20 (Nat.le_refl _))).wide (Nat.zero_le _) (by omega)) (hR26.wide (Nat.zero_le _) (by omega)) (validB_chanT hv_c) (validB_chanT hv_d) (by omega)) ?_
                          rintro _ w21 ⟨s4, rfl, hR28, H16⟩
                          obtain ⟨ps4, cs4, rfl, hl5⟩ := hR28.form
                          have hS3 := Kp.step hS2 H16
                          have hB21 := Bl.step hB20 H16
                          have hK59 := Blk.below hK54 H16
                          have hK60 := Blk.below hK55 H16
                          have hK61 := Blk.below hK56 H16
                          have hK62 := Blk.below hK57 H16
                          have hK63 := Blk.below hK58 H16
                          have hR29 := hR25.mono (kept_below H16 (by omega))
                          have hR30 := hR26.mono (kept_below H16 (by omega))
                          have hR31 := hR27.mono (kept_below H16 (by omega))
                          have hz16 := H16.size
                          refine ⟨hS3, ?_⟩
                          refine RH.one 11 (by kernel_rfl) ?_
                          refine RO.fn rfl rfl rfl rfl (Yc.func #[.agg #[.slice ps1 (((mergeR c t).1).length) cs1], .agg #[.slice ps4 ((cascT c (tab (t.length) (t.length) (fun x y => if t[x]! = ((y : Nat) : Int) then 1 else 0))).length) cs4]] rfl ok19 (args2 rfl rfl)) (c19 (hR29.wide (Nat.zero_le _) (by omega)) (hR28.wide (Nat.zero_le _) (by omega))) ?_
                          rintro _ w22 ⟨rfl, H17⟩
                          have hS4 := Kp.step hS3 H17
                          have hB22 := Bl.step hB21 H17
                          have hK64 := Blk.below hK59 H17
                          have hK65 := Blk.below hK60 H17
                          have hK66 := Blk.below hK61 H17
                          have hK67 := Blk.below hK62 H17
                          have hK68 := Blk.below hK63 H17
                          have hR32 := hR29.mono (kept_below H17 (by omega))
                          have hR33 := hR30.mono (kept_below H17 (by omega))
                          have hR34 := hR31.mono (kept_below H17 (by omega))
                          have hR35 := hR28.mono (kept_below H17 (by omega))
                          have hz17 := H17.size
                          rw [hkq1]
                          refine ⟨hS4, ?_⟩
                          refine RH.take 12 rfl (by kernel_rfl) rfl rfl rfl hS4 (fun W21 hW21 => Yl.pickT rfl rfl rfl) ?_
                          refine RH.take 13 rfl (by kernel_rfl) rfl rfl rfl hS4 (fun W22 hW22 => Yl.move rfl rfl) ?_
                          refine RH.take 14 rfl (by kernel_rfl) rfl rfl rfl hS4 (fun W23 hW23 => Yl.loadAgg (cs := [.slice ps1 (((mergeR c t).1).length) cs1]) rfl rfl many24 (Blk.cells (Kp.blk hW23 hK56 (by simp)))) ?_
                          refine RH.take 15 rfl (by kernel_rfl) rfl rfl rfl hS4 (fun W24 hW24 => Yl.loadAgg (cs := [.slice ps3 ((mergeT c t).length) cs3]) rfl rfl many24 (Blk.cells (Kp.blk hW24 hK58 (by simp)))) ?_
                          refine RH.one 16 (by kernel_rfl) ?_
                          refine RO.fn rfl rfl rfl rfl (Yc.func #[.agg #[.slice ps1 (((mergeR c t).1).length) cs1], .agg #[.slice ps3 ((mergeT c t).length) cs3]] rfl ok19 (args2 rfl rfl)) (c19 (hR32.wide (Nat.zero_le _) (by omega)) (hR34.wide (Nat.zero_le _) (by omega))) ?_
                          rintro _ w23 ⟨rfl, H18⟩
                          have hS5 := Kp.step hS4 H18
                          have hB23 := Bl.step hB22 H18
                          have hK69 := Blk.below hK64 H18
                          have hK70 := Blk.below hK65 H18
                          have hK71 := Blk.below hK66 H18
                          have hK72 := Blk.below hK67 H18
                          have hK73 := Blk.below hK68 H18
                          have hR36 := hR32.mono (kept_below H18 (by omega))
                          have hR37 := hR33.mono (kept_below H18 (by omega))
                          have hR38 := hR34.mono (kept_below H18 (by omega))
                          have hR39 := hR35.mono (kept_below H18 (by omega))
                          have hz18 := H18.size
                          rw [hkq2]
                          refine ⟨hS5, ?_⟩
                          refine RH.take 17 rfl (by kernel_rfl) rfl rfl rfl hS5 (fun W26 hW26 => Yl.pickT rfl rfl rfl) ?_
                          refine RH.take 18 rfl (by kernel_rfl) rfl rfl rfl hS5 (fun W27 hW27 => Yl.move rfl rfl) ?_
                          refine RH.take 19 rfl (by kernel_rfl) rfl rfl rfl hS5 (fun W28 hW28 => Yl.loadAgg (cs := [.slice ps1 (((mergeR c t).1).length) cs1]) rfl rfl many24 (Blk.cells (Kp.blk hW28 hK56 (by simp)))) ?_
                          refine RH.take 21 rfl (by kernel_rfl) rfl rfl rfl hS5 (fun W30 hW30 => Yl.loadAgg (cs := [.slice p c.length cc]) rfl rfl many24 (Blk.cells (Kp.blk hW30 hK54 (by simp)))) ?_
                          refine RH.one 20 (by kernel_rfl) ?_
                          refine RO.fn rfl rfl rfl rfl (Yc.func #[.agg #[.slice ps1 (((mergeR c t).1).length) cs1]] rfl ok24 (args1 rfl)) (c24 (hR36.wide (Nat.zero_le _) (by omega)) (validB_chanT hv_p)) ?_
                          rintro _ w24 ⟨rfl, H19⟩
                          have hS6 := Kp.step hS5 H19
                          have hB24 := Bl.step hB23 H19
                          have hK74 := Blk.below hK69 H19
                          have hK75 := Blk.below hK70 H19
                          have hK76 := Blk.below hK71 H19
                          have hK77 := Blk.below hK72 H19
                          have hK78 := Blk.below hK73 H19
                          have hR40 := hR36.mono (kept_below H19 (by omega))
                          have hR41 := hR37.mono (kept_below H19 (by omega))
                          have hR42 := hR38.mono (kept_below H19 (by omega))
                          have hR43 := hR39.mono (kept_below H19 (by omega))
                          have hz19 := H19.size
                          refine ⟨hS6, ?_⟩
                          refine RH.one 22 (by kernel_rfl) ?_
                          refine RO.fn rfl rfl rfl rfl (Yc.func #[.agg #[.slice p c.length cc]] rfl ok24 (args1 rfl)) (c24 ((hv.mono (kept_from hB0 hB24 (Nat.le_refl _))).wide (Nat.zero_le _) (by omega)) (validB_chanT hv_c)) ?_
                          rintro _ w25 ⟨rfl, H20⟩
                          have hS7 := Kp.step hS6 H20
                          have hB25 := Bl.step hB24 H20
                          have hK79 := Blk.below hK74 H20
                          have hK80 := Blk.below hK75 H20
                          have hK81 := Blk.below hK76 H20
                          have hK82 := Blk.below hK77 H20
                          have hK83 := Blk.below hK78 H20
                          have hR44 := hR40.mono (kept_below H20 (by omega))
                          have hR45 := hR41.mono (kept_below H20 (by omega))
                          have hR46 := hR42.mono (kept_below H20 (by omega))
                          have hR47 := hR43.mono (kept_below H20 (by omega))
                          have hz20 := H20.size
                          refine ⟨hS7, ?_⟩
                          refine RH.take 23 rfl (by kernel_rfl) rfl rfl rfl hS7 (fun W33 hW33 => Yl.leq rfl rfl rfl) ?_
                          refine RH.take 24 rfl (by kernel_rfl) rfl rfl rfl hS7 (fun W34 hW34 => Yl.pickT rfl rfl rfl) ?_
                          refine RH.take 25 rfl (by kernel_rfl) rfl rfl rfl hS7 (fun W35 hW35 => Yl.assign rfl rfl) ?_
                          refine RH.done (by kernel_rfl) ?_
                          change CW _ _ _ _ _ _
                          refine CW.ret ?_
                          change FinQ _ _ _ _ _ _
                          refine fin1 (.inr rfl) rfl rfl ?_
                          exact ⟨_, rfl, bval (by first | rfl | exact decide_eq_true (by omega) | exact decide_eq_true (by assumption)), hB25⟩)
                      ·
                        have hq17 := of_decide_eq_false hg17
                        first
                        | (exfalso; omega)
                        | (
                          refine CW.draw 26 rfl (Kp []) (by kernel_rfl) ?_
                          intro w26 H21
                          have hB26 := Bl.step hB19 H21
                          have hK84 := Blk.below hK49 H21
                          have hK85 := Blk.below hK50 H21
                          have hK86 := Blk.below hK51 H21
                          have hK87 := Blk.below hK52 H21
                          have hK88 := Blk.below hK53 H21
                          have hR48 := hR22.mono (kept_below H21 (by omega))
                          have hR49 := hR23.mono (kept_below H21 (by omega))
                          have hR50 := hR24.mono (kept_below H21 (by omega))
                          have hz21 := H21.size
                          have hS8 := Kp.refl [] w26
                          refine RH.take 0 rfl (by kernel_rfl) rfl rfl rfl hS8 (fun W36 hW36 => Yl.move rfl rfl) ?_
                          refine RH.take 1 rfl (by kernel_rfl) rfl rfl rfl hS8 (fun W37 hW37 => Yl.eqb (Yl.eql rfl rfl rfl) hg17) ?_
                          refine RH.take 2 rfl (by kernel_rfl) rfl rfl rfl hS8 (fun W38 hW38 => Yl.move rfl rfl) ?_
                          refine RH.pass 3 rfl (by kernel_rfl) rfl rfl rfl hS8 ?_
                          refine RH.pass 4 rfl (by kernel_rfl) rfl rfl rfl hS8 ?_
                          refine RH.take 5 rfl (by kernel_rfl) rfl rfl rfl hS8 (fun W39 hW39 => Yl.pickF rfl rfl rfl) ?_
                          refine RH.take 6 rfl (by kernel_rfl) rfl rfl rfl hS8 (fun W40 hW40 => Yl.move rfl rfl) ?_
                          refine RH.pass 7 rfl (by kernel_rfl) rfl rfl rfl hS8 ?_
                          refine RH.pass 8 rfl (by kernel_rfl) rfl rfl rfl hS8 ?_
                          refine RH.pass 9 rfl (by kernel_rfl) rfl rfl rfl hS8 ?_
                          refine RH.pass 10 rfl (by kernel_rfl) rfl rfl rfl hS8 ?_
                          refine RH.pass 11 rfl (by kernel_rfl) rfl rfl rfl hS8 ?_
                          refine RH.take 12 rfl (by kernel_rfl) rfl rfl rfl hS8 (fun W41 hW41 => Yl.pickF rfl rfl rfl) ?_
                          refine RH.take 13 rfl (by kernel_rfl) rfl rfl rfl hS8 (fun W42 hW42 => Yl.move rfl rfl) ?_
                          refine RH.pass 14 rfl (by kernel_rfl) rfl rfl rfl hS8 ?_
                          refine RH.pass 15 rfl (by kernel_rfl) rfl rfl rfl hS8 ?_
                          refine RH.pass 16 rfl (by kernel_rfl) rfl rfl rfl hS8 ?_
                          refine RH.take 17 rfl (by kernel_rfl) rfl rfl rfl hS8 (fun W43 hW43 => Yl.pickF rfl rfl rfl) ?_
                          refine RH.take 18 rfl (by kernel_rfl) rfl rfl rfl hS8 (fun W44 hW44 => Yl.move rfl rfl) ?_
                          refine RH.pass 19 rfl (by kernel_rfl) rfl rfl rfl hS8 ?_
                          refine RH.pass 20 rfl (by kernel_rfl) rfl rfl rfl hS8 ?_
                          refine RH.pass 21 rfl (by kernel_rfl) rfl rfl rfl hS8 ?_
                          refine RH.pass 22 rfl (by kernel_rfl) rfl rfl rfl hS8 ?_
                          refine RH.pass 23 rfl (by kernel_rfl) rfl rfl rfl hS8 ?_
                          refine RH.take 24 rfl (by kernel_rfl) rfl rfl rfl hS8 (fun W45 hW45 => Yl.pickF rfl rfl rfl) ?_
                          refine RH.take 25 rfl (by kernel_rfl) rfl rfl rfl hS8 (fun W46 hW46 => Yl.assign rfl rfl) ?_
                          refine RH.done (by kernel_rfl) ?_
                          change CW _ _ _ _ _ _
                          refine CW.ret ?_
                          change FinQ _ _ _ _ _ _
                          refine fin1 (.inr rfl) rfl rfl ?_
                          exact ⟨_, rfl, bval (by first | rfl | exact decide_eq_true (by omega) | exact decide_eq_true (by assumption)), hB26⟩))))))
  ·
    first
    | (exfalso; omega)
    | (
      refine CW.region ?_
      refine RW.yl rfl rfl rfl (Yl.loadAgg (cs := [.slice p c.length cc]) rfl rfl many24 (Blk.cells hK2)) ?_
      refine RW.fn rfl rfl rfl (Yc.func #[.agg #[.slice p c.length cc], .int .i64 20] rfl ok13 (args2 rfl rfl)) (c13 ((hv.mono (kept_from hB0 hB3 (Nat.le_refl _))).wide (Nat.zero_le _) (by omega))) ?_
      rintro _ w27 ⟨rfl, H22⟩
      have hB27 := Bl.step hB3 H22
      have hK89 := Blk.below hK2 H22
      have hK90 := Blk.below hK3 H22
      have hz22 := H22.size
      rw [hg1]
      refine RW.yl rfl rfl rfl (Yl.not rfl rfl) ?_
      refine RW.yl rfl rfl rfl (Yl.move rfl rfl) ?_
      refine RW.skip rfl rfl rfl ?_
      refine RW.skip rfl rfl rfl ?_
      refine RW.skip rfl rfl rfl ?_
      refine RW.yl rfl rfl rfl (Yl.pickT rfl rfl rfl) ?_
      refine RW.nil ?_
      change CW _ _ _ _ _ _
      refine CW.condT rfl ?_
      refine CW.seq ?_
      refine CW.region ?_
      refine RW.yl rfl rfl rfl (Yl.assign rfl rfl) ?_
      refine RW.nil ?_
      change CW _ _ _ _ _ _
      refine CW.ret ?_
      change FinQ _ _ _ _ _ _
      refine fin1 (.inr rfl) rfl rfl ?_
      exact ⟨_, rfl, bval (by first | rfl | exact decide_eq_true (by omega) | exact decide_eq_true (by assumption)), hB27⟩)

end Go.Proofs.Ytodeffidnipelaa
