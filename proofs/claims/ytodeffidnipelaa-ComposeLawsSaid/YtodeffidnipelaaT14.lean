/- ComposeLaws. -/
import Derived.Test.YtodeffidnipelaaM4
namespace Go.Proofs.Ytodeffidnipelaa
open Go.RowKit Go.Ev


set_option maxHeartbeats 4000000 in
theorem c6 {w : World} {v u t : Value} {a b c : List (List Int)} (hv : RRows 0 w.heap.size w v a) (hu : RRows 0 w.heap.size w u b) (ht : RRows 0 w.heap.size w t c) :
    Calls Try.prog 6 #[.agg #[v], .agg #[u], .agg #[t]] w (Ret fun r w' => r = .bool true ∧ Below w.heap.size w w') := by
  obtain ⟨p, ca, rfl, hl⟩ := hv.form
  obtain ⟨p2, cb, rfl, hl2⟩ := hu.form
  obtain ⟨p3, cc, rfl, hl3⟩ := ht.form
  have hB0 : Below w.heap.size w w := Below.refl _ _
  refine Ev.calls (l := [.agg #[.slice p a.length ca], .agg #[.slice p2 b.length cb], .agg #[.slice p3 c.length cc]]) Try.func6 rfl rfl rfl ?_
  change CW _ _ _ _ [(0, .agg #[.slice p a.length ca]), (1, .agg #[.slice p2 b.length cb]), (2, .agg #[.slice p3 c.length cc])] _
  refine CW.seq ?_
  refine CW.region ?_
  refine RW.newP (cs := #[.slice p a.length ca]) (T := 24) rfl rfl rfl (Yv.box (v := .agg #[.slice p a.length ca]) rfl rfl) ?_
  intro b1 w1 N1
  have lo_b1 : w.heap.size ≤ b1 := by have := hB0.size; have := N1.num; omega
  have hn_b1 := N1.num
  have hs_b1 := N1.size
  have hB1 := Bl.step hB0 N1.below
  refine RW.newP (cs := #[.slice p2 b.length cb]) (T := 24) rfl rfl rfl (Yv.box (v := .agg #[.slice p2 b.length cb]) rfl rfl) ?_
  intro b2 w2 N2
  have ne1 := New.ne N2 N1.blk
  have lo_b2 : w.heap.size ≤ b2 := by have := hB1.size; have := N2.num; omega
  have hn_b2 := N2.num
  have hs_b2 := N2.size
  have hB2 := Bl.step hB1 N2.below
  have hK1 := Blk.below N1.blk N2.below
  refine RW.newP (cs := #[.slice p3 c.length cc]) (T := 24) rfl rfl rfl (Yv.box (v := .agg #[.slice p3 c.length cc]) rfl rfl) ?_
  intro b3 w3 N3
  have ne2 := New.ne N3 hK1
  have ne3 := New.ne N3 N2.blk
  have lo_b3 : w.heap.size ≤ b3 := by have := hB2.size; have := N3.num; omega
  have hn_b3 := N3.num
  have hs_b3 := N3.size
  have hB3 := Bl.step hB2 N3.below
  have hK2 := Blk.below hK1 N3.below
  have hK3 := Blk.below N2.blk N3.below
  refine RW.yl rfl rfl rfl (Yl.assign rfl rfl) ?_
  refine RW.nil ?_
  change CW _ _ _ _ _ _
  refine CW.seq ?_
  refine CW.seq ?_
  refine CW.region ?_
  refine RW.fn rfl rfl rfl (Yc.func #[] rfl ok12 (args0)) (c12) ?_
  rintro _ w4 ⟨rfl, H1⟩
  have hB4 := Bl.step hB3 H1
  have hK4 := Blk.below hK2 H1
  have hK5 := Blk.below hK3 H1
  have hK6 := Blk.below N3.blk H1
  have hz1 := H1.size
  refine RW.yl rfl rfl rfl (Yl.not rfl rfl) ?_
  refine RW.nil ?_
  change CW _ _ _ _ _ _
  refine CW.condF rfl ?_
  refine CW.skip ?_
  change CW _ _ _ _ _ _
  refine CW.seq ?_
  refine CW.seq ?_
  rcases Bool.eq_false_or_eq_true (smallB a 6) with hg1 | hg1
  ·
    first
    | (exfalso; omega)
    | (
      rcases Bool.eq_false_or_eq_true (smallB b 6) with hg2 | hg2
      ·
        first
        | (exfalso; omega)
        | (
          refine CW.region ?_
          refine RW.yl rfl rfl rfl (Yl.loadAgg (cs := [.slice p a.length ca]) rfl rfl many24 (Blk.cells hK4)) ?_
          refine RW.fn rfl rfl rfl (Yc.func #[.agg #[.slice p a.length ca], .int .i64 6] rfl ok13 (args2 rfl rfl)) (c13 ((hv.mono (kept_from hB0 hB4 (Nat.le_refl _))).wide (Nat.zero_le _) (by omega))) ?_
          rintro _ w5 ⟨rfl, H2⟩
          have hB5 := Bl.step hB4 H2
          have hK7 := Blk.below hK4 H2
          have hK8 := Blk.below hK5 H2
          have hK9 := Blk.below hK6 H2
          have hz2 := H2.size
          rw [hg1]
          refine RW.yl rfl rfl rfl (Yl.not rfl rfl) ?_
          refine RW.yl rfl rfl rfl (Yl.move rfl rfl) ?_
          refine RW.yl rfl rfl rfl (Yl.loadAgg (cs := [.slice p2 b.length cb]) rfl rfl many24 (Blk.cells hK8)) ?_
          refine RW.fn rfl rfl rfl (Yc.func #[.agg #[.slice p2 b.length cb], .int .i64 6] rfl ok13 (args2 rfl rfl)) (c13 ((hu.mono (kept_from hB0 hB5 (Nat.le_refl _))).wide (Nat.zero_le _) (by omega))) ?_
          rintro _ w6 ⟨rfl, H3⟩
          have hB6 := Bl.step hB5 H3
          have hK10 := Blk.below hK7 H3
          have hK11 := Blk.below hK8 H3
          have hK12 := Blk.below hK9 H3
          have hz3 := H3.size
          rw [hg2]
          refine RW.yl rfl rfl rfl (Yl.not rfl rfl) ?_
          refine RW.yl rfl rfl rfl (Yl.pickF rfl rfl rfl) ?_
          refine RW.yl rfl rfl rfl (Yl.move rfl rfl) ?_
          refine RW.yl rfl rfl rfl (Yl.loadAgg (cs := [.slice p3 c.length cc]) rfl rfl many24 (Blk.cells hK12)) ?_
          refine RW.fn rfl rfl rfl (Yc.func #[.agg #[.slice p3 c.length cc], .int .i64 6] rfl ok13 (args2 rfl rfl)) (c13 ((ht.mono (kept_from hB0 hB6 (Nat.le_refl _))).wide (Nat.zero_le _) (by omega))) ?_
          rintro _ w7 ⟨rfl, H4⟩
          have hB7 := Bl.step hB6 H4
          have hK13 := Blk.below hK10 H4
          have hK14 := Blk.below hK11 H4
          have hK15 := Blk.below hK12 H4
          have hz4 := H4.size
          refine RW.yl rfl rfl rfl (Yl.not rfl rfl) ?_
          refine RW.yl rfl rfl rfl (Yl.pickF rfl rfl rfl) ?_
          refine RW.nil ?_
          change CW _ _ _ _ _ _
          refine CW.cond rfl ?_ ?_
          ·
            intro hg3
            have hg4 : smallB c 6 = false := not_t hg3
            first
            | (exfalso; omega)
            | (
              refine CW.seq ?_
              refine CW.region ?_
              refine RW.yl rfl rfl rfl (Yl.assign rfl rfl) ?_
              refine RW.nil ?_
              change CW _ _ _ _ _ _
              refine CW.ret ?_
              change FinQ _ _ _ _ _ _
              refine fin1 (.inr rfl) rfl rfl ?_
              exact ⟨_, rfl, bval (by first | rfl | exact decide_eq_true (by omega) | exact decide_eq_true (by assumption)), hB7⟩)
          ·
            intro hg5
            have hg6 : smallB c 6 = true := not_f hg5
            first
            | (exfalso; omega)
            | (
              refine CW.skip ?_
              change CW _ _ _ _ _ _
              refine CW.seq ?_
              refine CW.region ?_
              refine RW.yl rfl rfl rfl (Yl.loadAgg (cs := [.slice p a.length ca]) rfl rfl many24 (Blk.cells hK13)) ?_
              refine RW.yl rfl rfl rfl (Yl.loadAgg (cs := [.slice p2 b.length cb]) rfl rfl many24 (Blk.cells hK14)) ?_
              refine RW.fn rfl rfl rfl (Yc.func #[.agg #[.slice p a.length ca], .agg #[.slice p2 b.length cb]] rfl ok14 (args2 rfl rfl)) (c14 ((hv.mono (kept_from hB0 hB7 (Nat.le_refl _))).wide (Nat.zero_le _) (by omega)) ((hu.mono (kept_from hB0 hB7 (Nat.le_refl _))).wide (Nat.zero_le _) (by omega))) ?_
              rintro _ w8 ⟨s1, rfl, hR1, H5⟩
              obtain ⟨ps1, cs1, rfl, hl1⟩ := hR1.form
              have hB8 := Bl.step hB7 H5
              have hK16 := Blk.below hK13 H5
              have hK17 := Blk.below hK14 H5
              have hK18 := Blk.below hK15 H5
              have hz5 := H5.size
              refine RW.yl rfl rfl rfl (Yl.move rfl rfl) ?_
              refine RW.yl rfl rfl rfl (Yl.extract rfl rfl rfl) ?_
              refine RW.yl rfl rfl rfl (Yl.extract rfl rfl rfl) ?_
              refine RW.newP (cs := #[.slice none 0 0]) (T := 24) rfl rfl rfl (Yv.alloc (z := .agg #[.slice none 0 0]) rfl zero24) ?_
              intro b4 w9 N4
              have ne4 := New.ne N4 hK16
              have ne5 := New.ne N4 hK17
              have ne6 := New.ne N4 hK18
              have lo_b4 : w.heap.size ≤ b4 := by have := hB8.size; have := N4.num; omega
              have hn_b4 := N4.num
              have hs_b4 := N4.size
              have hB9 := Bl.step hB8 N4.below
              have hK19 := Blk.below hK16 N4.below
              have hK20 := Blk.below hK17 N4.below
              have hK21 := Blk.below hK18 N4.below
              have hR2 := hR1.mono (kept_below N4.below (by omega))
              refine RW.stoAll (cs' := #[.slice ps1 (((cascR a b).1).length) cs1]) rfl rfl N4.blk (Yu.storeAll rfl rfl rfl sz24 N4.blk rfl (by simp [Value.oneCell'])) ?_
              intro w10 H6
              have hB10 := Bl.sto hB9 H6 lo_b4
              have hK22 := Blk.sto hK19 H6 ne4
              have hK23 := Blk.sto hK20 H6 ne5
              have hK24 := Blk.sto hK21 H6 ne6
              have hK25 := H6.blk
              have hR3 := hR2.mono (kept_sto H6 (by omega) (by omega))
              have hz6 := H6.size
              refine RW.yl rfl rfl rfl (Yl.assign rfl rfl) ?_
              refine RW.nil ?_
              change CW _ _ _ _ _ _
              refine CW.seq ?_
              refine CW.region ?_
              refine RW.yl rfl rfl rfl (Yl.loadAgg (cs := [.slice p2 b.length cb]) rfl rfl many24 (Blk.cells hK23)) ?_
              refine RW.yl rfl rfl rfl (Yl.loadAgg (cs := [.slice p3 c.length cc]) rfl rfl many24 (Blk.cells hK24)) ?_
              refine RW.fn rfl rfl rfl (Yc.func #[.agg #[.slice p2 b.length cb], .agg #[.slice p3 c.length cc]] rfl ok14 (args2 rfl rfl)) (c14 ((hu.mono (kept_from hB0 hB10 (Nat.le_refl _))).wide (Nat.zero_le _) (by omega)) ((ht.mono (kept_from hB0 hB10 (Nat.le_refl _))).wide (Nat.zero_le _) (by omega))) ?_
              rintro _ w11 ⟨s2, rfl, hR4, H7⟩
              obtain ⟨ps2, cs2, rfl, hl2⟩ := hR4.form
              have hB11 := Bl.step hB10 H7
              have hK26 := Blk.below hK22 H7
              have hK27 := Blk.below hK23 H7
              have hK28 := Blk.below hK24 H7
              have hK29 := Blk.below hK25 H7
              have hR5 := hR3.mono (kept_below H7 (by omega))
              have hz7 := H7.size
              refine RW.yl rfl rfl rfl (Yl.move rfl rfl) ?_
              refine RW.yl rfl rfl rfl (Yl.extract rfl rfl rfl) ?_
              refine RW.yl rfl rfl rfl (Yl.extract rfl rfl rfl) ?_
              refine RW.newP (cs := #[.slice none 0 0]) (T := 24) rfl rfl rfl (Yv.alloc (z := .agg #[.slice none 0 0]) rfl zero24) ?_
              intro b5 w12 N5
              have ne7 := New.ne N5 hK26
              have ne8 := New.ne N5 hK27
              have ne9 := New.ne N5 hK28
              have ne10 := New.ne N5 hK29
              have lo_b5 : w.heap.size ≤ b5 := by have := hB11.size; have := N5.num; omega
              have hn_b5 := N5.num
              have hs_b5 := N5.size
              have hB12 := Bl.step hB11 N5.below
              have hK30 := Blk.below hK26 N5.below
              have hK31 := Blk.below hK27 N5.below
              have hK32 := Blk.below hK28 N5.below
              have hK33 := Blk.below hK29 N5.below
              have hR6 := hR5.mono (kept_below N5.below (by omega))
              have hR7 := hR4.mono (kept_below N5.below (by omega))
              refine RW.stoAll (cs' := #[.slice ps2 (((cascR b c).1).length) cs2]) rfl rfl N5.blk (Yu.storeAll rfl rfl rfl sz24 N5.blk rfl (by simp [Value.oneCell'])) ?_
              intro w13 H8
              have hB13 := Bl.sto hB12 H8 lo_b5
              have hK34 := Blk.sto hK30 H8 ne7
              have hK35 := Blk.sto hK31 H8 ne8
              have hK36 := Blk.sto hK32 H8 ne9
              have hK37 := Blk.sto hK33 H8 ne10
              have hK38 := H8.blk
              have hR8 := hR6.mono (kept_sto H8 (by omega) (by omega))
              have hR9 := hR7.mono (kept_sto H8 (by omega) (by omega))
              have hz8 := H8.size
              refine RW.yl rfl rfl rfl (Yl.assign rfl rfl) ?_
              refine RW.nil ?_
              change CW _ _ _ _ _ _
              refine CW.seq ?_
              refine CW.seq ?_
              rcases Bool.eq_false_or_eq_true (decide (((cascR a b).2) = 0)) with hg7 | hg7
              ·
                have hq5 := of_decide_eq_true hg7
                have hcascR := hg7
                first
                | (exfalso; omega)
                | (
                  refine CW.region ?_
                  refine RW.yl rfl rfl rfl (Yl.move rfl rfl) ?_
                  refine RW.yl rfl rfl rfl (Yl.eqb (Yl.eql rfl rfl rfl) hg7) ?_
                  refine RW.yl rfl rfl rfl (Yl.move rfl rfl) ?_
                  refine RW.yl rfl rfl rfl (Yl.move rfl rfl) ?_
                  refine RW.yl rfl rfl rfl (Yl.eql rfl rfl rfl) ?_
                  refine RW.yl rfl rfl rfl (Yl.pickT rfl rfl rfl) ?_
                  refine RW.nil ?_
                  change CW _ _ _ _ _ _
                  refine CW.cond rfl ?_ ?_
                  ·
                    intro hg8
                    have hq7 := of_decide_eq_true hg8
                    have hass_cascR : (cascR ((cascR a b).1) c) = (cascR a ((cascR b c).1)) := casc_assoc (of_decide_eq_true hcascR) (of_decide_eq_true hg8)
                    have hk2_cascR : decide (((cascR ((cascR a b).1) c).2) = ((cascR a ((cascR b c).1)).2)) = true := decide_eq_true (by rw [hass_cascR])
                    have hk1_cascR : decide ((cascR ((cascR a b).1) c).1 = (cascR a ((cascR b c).1)).1) = true := decide_eq_true (by rw [hass_cascR])
                    first
                    | (exfalso; omega)
                    | (
                      refine CW.seq ?_
                      refine CW.region ?_
                      refine RW.yl rfl rfl rfl (Yl.loadAgg (cs := [.slice ps1 (((cascR a b).1).length) cs1]) rfl rfl many24 (Blk.cells hK37)) ?_
                      refine RW.yl rfl rfl rfl (Yl.loadAgg (cs := [.slice p3 c.length cc]) rfl rfl many24 (Blk.cells hK36)) ?_
                      refine RW.fn rfl rfl rfl (Yc.func #[.agg #[.slice ps1 (((cascR a b).1).length) cs1], .agg #[.slice p3 c.length cc]] rfl ok14 (args2 rfl rfl)) (c14 (hR8.wide (Nat.zero_le _) (by omega)) ((ht.mono (kept_from hB0 hB13 (Nat.le_refl _))).wide (Nat.zero_le _) (by omega))) ?_
                      rintro _ w14 ⟨s3, rfl, hR10, H9⟩
                      obtain ⟨ps3, cs3, rfl, hl3⟩ := hR10.form
                      have hB14 := Bl.step hB13 H9
                      have hK39 := Blk.below hK34 H9
                      have hK40 := Blk.below hK35 H9
                      have hK41 := Blk.below hK36 H9
                      have hK42 := Blk.below hK37 H9
                      have hK43 := Blk.below hK38 H9
                      have hR11 := hR8.mono (kept_below H9 (by omega))
                      have hR12 := hR9.mono (kept_below H9 (by omega))
                      have hz9 := H9.size
                      refine RW.yl rfl rfl rfl (Yl.move rfl rfl) ?_
                      refine RW.yl rfl rfl rfl (Yl.extract rfl rfl rfl) ?_
                      refine RW.yl rfl rfl rfl (Yl.extract rfl rfl rfl) ?_
                      refine RW.newP (cs := #[.slice none 0 0]) (T := 24) rfl rfl rfl (Yv.alloc (z := .agg #[.slice none 0 0]) rfl zero24) ?_
                      intro b6 w15 N6
                      have ne11 := New.ne N6 hK39
                      have ne12 := New.ne N6 hK40
                      have ne13 := New.ne N6 hK41
                      have ne14 := New.ne N6 hK42
                      have ne15 := New.ne N6 hK43
                      have lo_b6 : w.heap.size ≤ b6 := by have := hB14.size; have := N6.num; omega
                      have hn_b6 := N6.num
                      have hs_b6 := N6.size
                      have hB15 := Bl.step hB14 N6.below
                      have hK44 := Blk.below hK39 N6.below
                      have hK45 := Blk.below hK40 N6.below
                      have hK46 := Blk.below hK41 N6.below
                      have hK47 := Blk.below hK42 N6.below
                      have hK48 := Blk.below hK43 N6.below
                      have hR13 := hR11.mono (kept_below N6.below (by omega))
                      have hR14 := hR12.mono (kept_below N6.below (by omega))
                      have hR15 := hR10.mono (kept_below N6.below (by omega))
                      refine RW.stoAll (cs' := #[.slice ps3 (((cascR ((cascR a b).1) c).1).length) cs3]) rfl rfl N6.blk (Yu.storeAll rfl rfl rfl sz24 N6.blk rfl (by simp [Value.oneCell'])) ?_
                      intro w16 H10
                      have hB16 := Bl.sto hB15 H10 lo_b6
                      have hK49 := Blk.sto hK44 H10 ne11
                      have hK50 := Blk.sto hK45 H10 ne12
                      have hK51 := Blk.sto hK46 H10 ne13
                      have hK52 := Blk.sto hK47 H10 ne14
                      have hK53 := Blk.sto hK48 H10 ne15
                      have hK54 := H10.blk
                      have hR16 := hR13.mono (kept_sto H10 (by omega) (by omega))
                      have hR17 := hR14.mono (kept_sto H10 (by omega) (by omega))
                      have hR18 := hR15.mono (kept_sto H10 (by omega) (by omega))
                      have hz10 := H10.size
                      refine RW.yl rfl rfl rfl (Yl.assign rfl rfl) ?_
                      refine RW.nil ?_
                      change CW _ _ _ _ _ _
                      refine CW.seq ?_
                      refine CW.region ?_
                      refine RW.yl rfl rfl rfl (Yl.loadAgg (cs := [.slice p a.length ca]) rfl rfl many24 (Blk.cells hK49)) ?_
                      refine RW.yl rfl rfl rfl (Yl.loadAgg (cs := [.slice ps2 (((cascR b c).1).length) cs2]) rfl rfl many24 (Blk.cells hK53)) ?_
                      refine RW.fn rfl rfl rfl (Yc.func #[.agg #[.slice p a.length ca], .agg #[.slice ps2 (((cascR b c).1).length) cs2]] rfl ok14 (args2 rfl rfl)) (c14 ((hv.mono (kept_from hB0 hB16 (Nat.le_refl _))).wide (Nat.zero_le _) (by omega)) (hR17.wide (Nat.zero_le _) (by omega))) ?_
                      rintro _ w17 ⟨s4, rfl, hR19, H11⟩
                      obtain ⟨ps4, cs4, rfl, hl4⟩ := hR19.form
                      have hB17 := Bl.step hB16 H11
                      have hK55 := Blk.below hK49 H11
                      have hK56 := Blk.below hK50 H11
                      have hK57 := Blk.below hK51 H11
                      have hK58 := Blk.below hK52 H11
                      have hK59 := Blk.below hK53 H11
                      have hK60 := Blk.below hK54 H11
                      have hR20 := hR16.mono (kept_below H11 (by omega))
                      have hR21 := hR17.mono (kept_below H11 (by omega))
                      have hR22 := hR18.mono (kept_below H11 (by omega))
                      have hz11 := H11.size
                      refine RW.yl rfl rfl rfl (Yl.move rfl rfl) ?_
                      refine RW.yl rfl rfl rfl (Yl.extract rfl rfl rfl) ?_
                      refine RW.yl rfl rfl rfl (Yl.extract rfl rfl rfl) ?_
                      refine RW.newP (cs := #[.slice none 0 0]) (T := 24) rfl rfl rfl (Yv.alloc (z := .agg #[.slice none 0 0]) rfl zero24) ?_
                      intro b7 w18 N7
                      have ne16 := New.ne N7 hK55
                      have ne17 := New.ne N7 hK56
                      have ne18 := New.ne N7 hK57
                      have ne19 := New.ne N7 hK58
                      have ne20 := New.ne N7 hK59
                      have ne21 := New.ne N7 hK60
                      have lo_b7 : w.heap.size ≤ b7 := by have := hB17.size; have := N7.num; omega
                      have hn_b7 := N7.num
                      have hs_b7 := N7.size
                      have hB18 := Bl.step hB17 N7.below
                      have hK61 := Blk.below hK55 N7.below
                      have hK62 := Blk.below hK56 N7.below
                      have hK63 := Blk.below hK57 N7.below
                      have hK64 := Blk.below hK58 N7.below
                      have hK65 := Blk.below hK59 N7.below
                      have hK66 := Blk.below hK60 N7.below
                      have hR23 := hR20.mono (kept_below N7.below (by omega))
                      have hR24 := hR21.mono (kept_below N7.below (by omega))
                      have hR25 := hR22.mono (kept_below N7.below (by omega))
                      have hR26 := hR19.mono (kept_below N7.below (by omega))
                      refine RW.stoAll (cs' := #[.slice ps4 (((cascR a ((cascR b c).1)).1).length) cs4]) rfl rfl N7.blk (Yu.storeAll rfl rfl rfl sz24 N7.blk rfl (by simp [Value.oneCell'])) ?_
                      intro w19 H12
                      have hB19 := Bl.sto hB18 H12 lo_b7
                      have hK67 := Blk.sto hK61 H12 ne16
                      have hK68 := Blk.sto hK62 H12 ne17
                      have hK69 := Blk.sto hK63 H12 ne18
                      have hK70 := Blk.sto hK64 H12 ne19
                      have hK71 := Blk.sto hK65 H12 ne20
                      have hK72 := Blk.sto hK66 H12 ne21
                      have hK73 := H12.blk
                      have hR27 := hR23.mono (kept_sto H12 (by omega) (by omega))
                      have hR28 := hR24.mono (kept_sto H12 (by omega) (by omega))
                      have hR29 := hR25.mono (kept_sto H12 (by omega) (by omega))
                      have hR30 := hR26.mono (kept_sto H12 (by omega) (by omega))
                      have hz12 := H12.size
                      refine RW.yl rfl rfl rfl (Yl.assign rfl rfl) ?_
                      refine RW.nil ?_
                      change CW _ _ _ _ _ _
                      refine CW.seq ?_
                      refine CW.region ?_
                      refine RW.yl rfl rfl rfl (Yl.move rfl rfl) ?_
                      refine RW.yl rfl rfl rfl (Yl.move rfl rfl) ?_
                      refine RW.yl rfl rfl rfl (Yl.eqb (Yl.neq rfl rfl rfl) (congrArg (fun b => !b) hk2_cascR)) ?_
                      refine RW.yl rfl rfl rfl (Yl.move rfl rfl) ?_
                      refine RW.yl rfl rfl rfl (Yl.loadAgg (cs := [.slice ps3 (((cascR ((cascR a b).1) c).1).length) cs3]) rfl rfl many24 (Blk.cells hK72)) ?_
                      refine RW.yl rfl rfl rfl (Yl.loadAgg (cs := [.slice ps4 (((cascR a ((cascR b c).1)).1).length) cs4]) rfl rfl many24 (Blk.cells hK73)) ?_
                      refine RW.fn rfl rfl rfl (Yc.func #[.agg #[.slice ps3 (((cascR ((cascR a b).1) c).1).length) cs3], .agg #[.slice ps4 (((cascR a ((cascR b c).1)).1).length) cs4]] rfl ok19 (args2 rfl rfl)) (c19 (hR29.wide (Nat.zero_le _) (by omega)) (hR30.wide (Nat.zero_le _) (by omega))) ?_
                      rintro _ w20 ⟨rfl, H13⟩
                      have hB20 := Bl.step hB19 H13
                      have hK74 := Blk.below hK67 H13
                      have hK75 := Blk.below hK68 H13
                      have hK76 := Blk.below hK69 H13
                      have hK77 := Blk.below hK70 H13
                      have hK78 := Blk.below hK71 H13
                      have hK79 := Blk.below hK72 H13
                      have hK80 := Blk.below hK73 H13
                      have hR31 := hR27.mono (kept_below H13 (by omega))
                      have hR32 := hR28.mono (kept_below H13 (by omega))
                      have hR33 := hR29.mono (kept_below H13 (by omega))
                      have hR34 := hR30.mono (kept_below H13 (by omega))
                      have hz13 := H13.size
                      rw [hk1_cascR]
                      refine RW.yl rfl rfl rfl (Yl.not rfl rfl) ?_
                      refine RW.yl rfl rfl rfl (Yl.pickF rfl rfl rfl) ?_
                      refine RW.nil ?_
                      change CW _ _ _ _ _ _
                      refine CW.condF rfl ?_
                      refine CW.skip ?_
                      change CW _ _ _ _ _ _
                      refine CW.seq ?_
                      refine CW.region ?_
                      refine RW.yl rfl rfl rfl (Yl.loadAgg (cs := [.slice p a.length ca]) rfl rfl many24 (Blk.cells hK74)) ?_
                      refine RW.yl rfl rfl rfl (Yl.loadAgg (cs := [.slice p2 b.length cb]) rfl rfl many24 (Blk.cells hK75)) ?_
                      refine RW.fn rfl rfl rfl (Yc.func #[.agg #[.slice p a.length ca], .agg #[.slice p2 b.length cb]] rfl ok21 (args2 rfl rfl)) (c21 ((hv.mono (kept_from hB0 hB20 (Nat.le_refl _))).wide (Nat.zero_le _) (by omega)) ((hu.mono (kept_from hB0 hB20 (Nat.le_refl _))).wide (Nat.zero_le _) (by omega))) ?_
                      rintro _ w21 ⟨s5, rfl, hR35, H14⟩
                      obtain ⟨ps5, cs5, rfl, hl5⟩ := hR35.form
                      have hB21 := Bl.step hB20 H14
                      have hK81 := Blk.below hK74 H14
                      have hK82 := Blk.below hK75 H14
                      have hK83 := Blk.below hK76 H14
                      have hK84 := Blk.below hK77 H14
                      have hK85 := Blk.below hK78 H14
                      have hK86 := Blk.below hK79 H14
                      have hK87 := Blk.below hK80 H14
                      have hR36 := hR31.mono (kept_below H14 (by omega))
                      have hR37 := hR32.mono (kept_below H14 (by omega))
                      have hR38 := hR33.mono (kept_below H14 (by omega))
                      have hR39 := hR34.mono (kept_below H14 (by omega))
                      have hz14 := H14.size
                      refine RW.yl rfl rfl rfl (Yl.move rfl rfl) ?_
                      refine RW.yl rfl rfl rfl (Yl.extract rfl rfl rfl) ?_
                      refine RW.yl rfl rfl rfl (Yl.extract rfl rfl rfl) ?_
                      refine RW.stoAll (cs' := #[.slice ps5 (((parR a b).1).length) cs5]) rfl rfl hK84 (Yu.storeAll rfl rfl rfl sz24 hK84 rfl (by simp [Value.oneCell'])) ?_
                      intro w22 H15
                      have hB22 := Bl.sto hB21 H15 lo_b4
                      have hK88 := Blk.sto hK81 H15 ne4
                      have hK89 := Blk.sto hK82 H15 ne5
                      have hK90 := Blk.sto hK83 H15 ne6
                      have hK91 := H15.blk
                      have hK92 := Blk.sto hK85 H15 ne10.symm
                      have hK93 := Blk.sto hK86 H15 ne14.symm
                      have hK94 := Blk.sto hK87 H15 ne19.symm
                      have hR40 := hR36.mono (kept_sto H15 (by omega) (by omega))
                      have hR41 := hR37.mono (kept_sto H15 (by omega) (by omega))
                      have hR42 := hR38.mono (kept_sto H15 (by omega) (by omega))
                      have hR43 := hR39.mono (kept_sto H15 (by omega) (by omega))
                      have hR44 := hR35.mono (kept_sto H15 (by omega) (by omega))
                      have hz15 := H15.size
                      refine RW.yl rfl rfl rfl (Yl.assign rfl rfl) ?_
                      refine RW.nil ?_
                      change CW _ _ _ _ _ _
                      refine CW.seq ?_
                      refine CW.region ?_
                      refine RW.yl rfl rfl rfl (Yl.loadAgg (cs := [.slice p2 b.length cb]) rfl rfl many24 (Blk.cells hK89)) ?_
                      refine RW.yl rfl rfl rfl (Yl.loadAgg (cs := [.slice p3 c.length cc]) rfl rfl many24 (Blk.cells hK90)) ?_
                      refine RW.fn rfl rfl rfl (Yc.func #[.agg #[.slice p2 b.length cb], .agg #[.slice p3 c.length cc]] rfl ok21 (args2 rfl rfl)) (c21 ((hu.mono (kept_from hB0 hB22 (Nat.le_refl _))).wide (Nat.zero_le _) (by omega)) ((ht.mono (kept_from hB0 hB22 (Nat.le_refl _))).wide (Nat.zero_le _) (by omega))) ?_
                      rintro _ w23 ⟨s6, rfl, hR45, H16⟩
                      obtain ⟨ps6, cs6, rfl, hl6⟩ := hR45.form
                      have hB23 := Bl.step hB22 H16
                      have hK95 := Blk.below hK88 H16
                      have hK96 := Blk.below hK89 H16
                      have hK97 := Blk.below hK90 H16
                      have hK98 := Blk.below hK91 H16
                      have hK99 := Blk.below hK92 H16
                      have hK100 := Blk.below hK93 H16
                      have hK101 := Blk.below hK94 H16
                      have hR46 := hR40.mono (kept_below H16 (by omega))
                      have hR47 := hR41.mono (kept_below H16 (by omega))
                      have hR48 := hR42.mono (kept_below H16 (by omega))
                      have hR49 := hR43.mono (kept_below H16 (by omega))
                      have hR50 := hR44.mono (kept_below H16 (by omega))
                      have hz16 := H16.size
                      refine RW.yl rfl rfl rfl (Yl.move rfl rfl) ?_
                      refine RW.yl rfl rfl rfl (Yl.extract rfl rfl rfl) ?_
                      refine RW.yl rfl rfl rfl (Yl.extract rfl rfl rfl) ?_
                      refine RW.stoAll (cs' := #[.slice ps6 (((parR b c).1).length) cs6]) rfl rfl hK99 (Yu.storeAll rfl rfl rfl sz24 hK99 rfl (by simp [Value.oneCell'])) ?_
                      intro w24 H17
                      have hB24 := Bl.sto hB23 H17 lo_b5
                      have hK102 := Blk.sto hK95 H17 ne7
                      have hK103 := Blk.sto hK96 H17 ne8
                      have hK104 := Blk.sto hK97 H17 ne9
                      have hK105 := Blk.sto hK98 H17 ne10
                      have hK106 := H17.blk
                      have hK107 := Blk.sto hK100 H17 ne15.symm
                      have hK108 := Blk.sto hK101 H17 ne20.symm
                      have hR51 := hR46.mono (kept_sto H17 (by omega) (by omega))
                      have hR52 := hR47.mono (kept_sto H17 (by omega) (by omega))
                      have hR53 := hR48.mono (kept_sto H17 (by omega) (by omega))
                      have hR54 := hR49.mono (kept_sto H17 (by omega) (by omega))
                      have hR55 := hR50.mono (kept_sto H17 (by omega) (by omega))
                      have hR56 := hR45.mono (kept_sto H17 (by omega) (by omega))
                      have hz17 := H17.size
                      refine RW.yl rfl rfl rfl (Yl.assign rfl rfl) ?_
                      refine RW.nil ?_
                      change CW _ _ _ _ _ _
                      refine CW.seq ?_
                      refine CW.seq ?_
                      rcases Bool.eq_false_or_eq_true (decide (((parR a b).2) = 0)) with hg9 | hg9
                      ·
                        have hq8 := of_decide_eq_true hg9
                        have hparR := hg9
                        first
                        | (exfalso; omega)
                        | (
                          refine CW.region ?_
                          refine RW.yl rfl rfl rfl (Yl.move rfl rfl) ?_
                          refine RW.yl rfl rfl rfl (Yl.eqb (Yl.neq rfl rfl rfl) (congrArg (fun b => !b) hg9)) ?_
                          refine RW.yl rfl rfl rfl (Yl.move rfl rfl) ?_
                          refine RW.yl rfl rfl rfl (Yl.move rfl rfl) ?_
                          refine RW.yl rfl rfl rfl (Yl.neq rfl rfl rfl) ?_
                          refine RW.yl rfl rfl rfl (Yl.pickF rfl rfl rfl) ?_
                          refine RW.nil ?_
                          change CW _ _ _ _ _ _
                          refine CW.cond rfl ?_ ?_
                          ·
                            intro hg10
                            have hg11 : decide (((parR b c).2) = 0) = false := not_t hg10
                            have hq10 := of_decide_eq_false hg11
                            first
                            | (exfalso; omega)
                            | (
                              refine CW.seq ?_
                              refine CW.region ?_
                              refine RW.yl rfl rfl rfl (Yl.assign rfl rfl) ?_
                              refine RW.nil ?_
                              change CW _ _ _ _ _ _
                              refine CW.ret ?_
                              change FinQ _ _ _ _ _ _
                              refine fin1 (.inr rfl) rfl rfl ?_
                              exact ⟨_, rfl, bval (by first | rfl | exact decide_eq_true (by omega) | exact decide_eq_true (by assumption)), hB24⟩)
                          ·
                            intro hg12
                            have hg13 : decide (((parR b c).2) = 0) = true := not_f hg12
                            have hq12 := of_decide_eq_true hg13
                            have hass_parR : (parR ((parR a b).1) c) = (parR a ((parR b c).1)) := par_assoc (of_decide_eq_true hparR) (of_decide_eq_true hg13)
                            have hk2_parR : decide (((parR ((parR a b).1) c).2) = ((parR a ((parR b c).1)).2)) = true := decide_eq_true (by rw [hass_parR])
                            have hk1_parR : decide ((parR ((parR a b).1) c).1 = (parR a ((parR b c).1)).1) = true := decide_eq_true (by rw [hass_parR])
                            first
                            | (exfalso; omega)
                            | (
                              refine CW.skip ?_
                              change CW _ _ _ _ _ _
                              refine CW.seq ?_
                              refine CW.region ?_
                              refine RW.yl rfl rfl rfl (Yl.loadAgg (cs := [.slice ps5 (((parR a b).1).length) cs5]) rfl rfl many24 (Blk.cells hK105)) ?_
                              refine RW.yl rfl rfl rfl (Yl.loadAgg (cs := [.slice p3 c.length cc]) rfl rfl many24 (Blk.cells hK104)) ?_
                              refine RW.fn rfl rfl rfl (Yc.func #[.agg #[.slice ps5 (((parR a b).1).length) cs5], .agg #[.slice p3 c.length cc]] rfl ok21 (args2 rfl rfl)) (c21 (hR55.wide (Nat.zero_le _) (by omega)) ((ht.mono (kept_from hB0 hB24 (Nat.le_refl _))).wide (Nat.zero_le _) (by omega))) ?_
                              rintro _ w25 ⟨s7, rfl, hR57, H18⟩
                              obtain ⟨ps7, cs7, rfl, hl7⟩ := hR57.form
                              have hB25 := Bl.step hB24 H18
                              have hK109 := Blk.below hK102 H18
                              have hK110 := Blk.below hK103 H18
                              have hK111 := Blk.below hK104 H18
                              have hK112 := Blk.below hK105 H18
                              have hK113 := Blk.below hK106 H18
                              have hK114 := Blk.below hK107 H18
                              have hK115 := Blk.below hK108 H18
                              have hR58 := hR51.mono (kept_below H18 (by omega))
                              have hR59 := hR52.mono (kept_below H18 (by omega))
                              have hR60 := hR53.mono (kept_below H18 (by omega))
                              have hR61 := hR54.mono (kept_below H18 (by omega))
                              have hR62 := hR55.mono (kept_below H18 (by omega))
                              have hR63 := hR56.mono (kept_below H18 (by omega))
                              have hz18 := H18.size
                              refine RW.yl rfl rfl rfl (Yl.move rfl rfl) ?_
                              refine RW.yl rfl rfl rfl (Yl.extract rfl rfl rfl) ?_
                              refine RW.yl rfl rfl rfl (Yl.extract rfl rfl rfl) ?_
                              refine RW.newP (cs := #[.slice none 0 0]) (T := 24) rfl rfl rfl (Yv.alloc (z := .agg #[.slice none 0 0]) rfl zero24) ?_
                              intro b8 w26 N8
                              have ne22 := New.ne N8 hK109
                              have ne23 := New.ne N8 hK110
                              have ne24 := New.ne N8 hK111
                              have ne25 := New.ne N8 hK112
                              have ne26 := New.ne N8 hK113
                              have ne27 := New.ne N8 hK114
                              have ne28 := New.ne N8 hK115
                              have lo_b8 : w.heap.size ≤ b8 := by have := hB25.size; have := N8.num; omega
                              have hn_b8 := N8.num
                              have hs_b8 := N8.size
                              have hB26 := Bl.step hB25 N8.below
                              have hK116 := Blk.below hK109 N8.below
                              have hK117 := Blk.below hK110 N8.below
                              have hK118 := Blk.below hK111 N8.below
                              have hK119 := Blk.below hK112 N8.below
                              have hK120 := Blk.below hK113 N8.below
                              have hK121 := Blk.below hK114 N8.below
                              have hK122 := Blk.below hK115 N8.below
                              have hR64 := hR58.mono (kept_below N8.below (by omega))
                              have hR65 := hR59.mono (kept_below N8.below (by omega))
                              have hR66 := hR60.mono (kept_below N8.below (by omega))
                              have hR67 := hR61.mono (kept_below N8.below (by omega))
                              have hR68 := hR62.mono (kept_below N8.below (by omega))
                              have hR69 := hR63.mono (kept_below N8.below (by omega))
                              have hR70 := hR57.mono (kept_below N8.below (by omega))
                              refine RW.stoAll (cs' := #[.slice ps7 (((parR ((parR a b).1) c).1).length) cs7]) rfl rfl N8.blk (Yu.storeAll rfl rfl rfl sz24 N8.blk rfl (by simp [Value.oneCell'])) ?_
                              intro w27 H19
                              have hB27 := Bl.sto hB26 H19 lo_b8
                              have hK123 := Blk.sto hK116 H19 ne22
                              have hK124 := Blk.sto hK117 H19 ne23
                              have hK125 := Blk.sto hK118 H19 ne24
                              have hK126 := Blk.sto hK119 H19 ne25
                              have hK127 := Blk.sto hK120 H19 ne26
                              have hK128 := Blk.sto hK121 H19 ne27
                              have hK129 := Blk.sto hK122 H19 ne28
                              have hK130 := H19.blk
                              have hR71 := hR64.mono (kept_sto H19 (by omega) (by omega))
                              have hR72 := hR65.mono (kept_sto H19 (by omega) (by omega))
                              have hR73 := hR66.mono (kept_sto H19 (by omega) (by omega))
                              have hR74 := hR67.mono (kept_sto H19 (by omega) (by omega))
                              have hR75 := hR68.mono (kept_sto H19 (by omega) (by omega))
                              have hR76 := hR69.mono (kept_sto H19 (by omega) (by omega))
                              have hR77 := hR70.mono (kept_sto H19 (by omega) (by omega))
                              have hz19 := H19.size
                              refine RW.yl rfl rfl rfl (Yl.assign rfl rfl) ?_
                              refine RW.nil ?_
                              change CW _ _ _ _ _ _
                              refine CW.seq ?_
                              refine CW.region ?_
                              refine RW.yl rfl rfl rfl (Yl.loadAgg (cs := [.slice p a.length ca]) rfl rfl many24 (Blk.cells hK123)) ?_
                              refine RW.yl rfl rfl rfl (Yl.loadAgg (cs := [.slice ps6 (((parR b c).1).length) cs6]) rfl rfl many24 (Blk.cells hK127)) ?_
                              refine RW.fn rfl rfl rfl (Yc.func #[.agg #[.slice p a.length ca], .agg #[.slice ps6 (((parR b c).1).length) cs6]] rfl ok21 (args2 rfl rfl)) (c21 ((hv.mono (kept_from hB0 hB27 (Nat.le_refl _))).wide (Nat.zero_le _) (by omega)) (hR76.wide (Nat.zero_le _) (by omega))) ?_
                              rintro _ w28 ⟨s8, rfl, hR78, H20⟩
                              obtain ⟨ps8, cs8, rfl, hl8⟩ := hR78.form
                              have hB28 := Bl.step hB27 H20
                              have hK131 := Blk.below hK123 H20
                              have hK132 := Blk.below hK124 H20
                              have hK133 := Blk.below hK125 H20
                              have hK134 := Blk.below hK126 H20
                              have hK135 := Blk.below hK127 H20
                              have hK136 := Blk.below hK128 H20
                              have hK137 := Blk.below hK129 H20
                              have hK138 := Blk.below hK130 H20
                              have hR79 := hR71.mono (kept_below H20 (by omega))
                              have hR80 := hR72.mono (kept_below H20 (by omega))
                              have hR81 := hR73.mono (kept_below H20 (by omega))
                              have hR82 := hR74.mono (kept_below H20 (by omega))
                              have hR83 := hR75.mono (kept_below H20 (by omega))
                              have hR84 := hR76.mono (kept_below H20 (by omega))
                              have hR85 := hR77.mono (kept_below H20 (by omega))
                              have hz20 := H20.size
                              refine RW.yl rfl rfl rfl (Yl.move rfl rfl) ?_
                              refine RW.yl rfl rfl rfl (Yl.extract rfl rfl rfl) ?_
                              refine RW.yl rfl rfl rfl (Yl.extract rfl rfl rfl) ?_
                              refine RW.newP (cs := #[.slice none 0 0]) (T := 24) rfl rfl rfl (Yv.alloc (z := .agg #[.slice none 0 0]) rfl zero24) ?_
                              intro b9 w29 N9
                              have ne29 := New.ne N9 hK131
                              have ne30 := New.ne N9 hK132
                              have ne31 := New.ne N9 hK133
                              have ne32 := New.ne N9 hK134
                              have ne33 := New.ne N9 hK135
                              have ne34 := New.ne N9 hK136
                              have ne35 := New.ne N9 hK137
                              have ne36 := New.ne N9 hK138
                              have lo_b9 : w.heap.size ≤ b9 := by have := hB28.size; have := N9.num; omega
                              have hn_b9 := N9.num
                              have hs_b9 := N9.size
                              have hB29 := Bl.step hB28 N9.below
                              have hK139 := Blk.below hK131 N9.below
                              have hK140 := Blk.below hK132 N9.below
                              have hK141 := Blk.below hK133 N9.below
                              have hK142 := Blk.below hK134 N9.below
                              have hK143 := Blk.below hK135 N9.below
                              have hK144 := Blk.below hK136 N9.below
                              have hK145 := Blk.below hK137 N9.below
                              have hK146 := Blk.below hK138 N9.below
                              have hR86 := hR79.mono (kept_below N9.below (by omega))
                              have hR87 := hR80.mono (kept_below N9.below (by omega))
                              have hR88 := hR81.mono (kept_below N9.below (by omega))
                              have hR89 := hR82.mono (kept_below N9.below (by omega))
                              have hR90 := hR83.mono (kept_below N9.below (by omega))
                              have hR91 := hR84.mono (kept_below N9.below (by omega))
                              have hR92 := hR85.mono (kept_below N9.below (by omega))
                              have hR93 := hR78.mono (kept_below N9.below (by omega))
                              refine RW.stoAll (cs' := #[.slice ps8 (((parR a ((parR b c).1)).1).length) cs8]) rfl rfl N9.blk (Yu.storeAll rfl rfl rfl sz24 N9.blk rfl (by simp [Value.oneCell'])) ?_
                              intro w30 H21
                              have hB30 := Bl.sto hB29 H21 lo_b9
                              have hK147 := Blk.sto hK139 H21 ne29
                              have hK148 := Blk.sto hK140 H21 ne30
                              have hK149 := Blk.sto hK141 H21 ne31
                              have hK150 := Blk.sto hK142 H21 ne32
                              have hK151 := Blk.sto hK143 H21 ne33
                              have hK152 := Blk.sto hK144 H21 ne34
                              have hK153 := Blk.sto hK145 H21 ne35
                              have hK154 := Blk.sto hK146 H21 ne36
                              have hK155 := H21.blk
                              have hR94 := hR86.mono (kept_sto H21 (by omega) (by omega))
                              have hR95 := hR87.mono (kept_sto H21 (by omega) (by omega))
                              have hR96 := hR88.mono (kept_sto H21 (by omega) (by omega))
                              have hR97 := hR89.mono (kept_sto H21 (by omega) (by omega))
                              have hR98 := hR90.mono (kept_sto H21 (by omega) (by omega))
                              have hR99 := hR91.mono (kept_sto H21 (by omega) (by omega))
                              have hR100 := hR92.mono (kept_sto H21 (by omega) (by omega))
                              have hR101 := hR93.mono (kept_sto H21 (by omega) (by omega))
                              have hz21 := H21.size
                              refine RW.yl rfl rfl rfl (Yl.assign rfl rfl) ?_
                              refine RW.nil ?_
                              change CW _ _ _ _ _ _
                              refine CW.seq ?_
                              refine CW.region ?_
                              refine RW.yl rfl rfl rfl (Yl.move rfl rfl) ?_
                              refine RW.yl rfl rfl rfl (Yl.move rfl rfl) ?_
                              refine RW.yl rfl rfl rfl (Yl.eqb (Yl.eql rfl rfl rfl) hk2_parR) ?_
                              refine RW.yl rfl rfl rfl (Yl.move rfl rfl) ?_
                              refine RW.yl rfl rfl rfl (Yl.loadAgg (cs := [.slice ps7 (((parR ((parR a b).1) c).1).length) cs7]) rfl rfl many24 (Blk.cells hK154)) ?_
                              refine RW.yl rfl rfl rfl (Yl.loadAgg (cs := [.slice ps8 (((parR a ((parR b c).1)).1).length) cs8]) rfl rfl many24 (Blk.cells hK155)) ?_
                              refine RW.fn rfl rfl rfl (Yc.func #[.agg #[.slice ps7 (((parR ((parR a b).1) c).1).length) cs7], .agg #[.slice ps8 (((parR a ((parR b c).1)).1).length) cs8]] rfl ok19 (args2 rfl rfl)) (c19 (hR100.wide (Nat.zero_le _) (by omega)) (hR101.wide (Nat.zero_le _) (by omega))) ?_
                              rintro _ w31 ⟨rfl, H22⟩
                              have hB31 := Bl.step hB30 H22
                              have hK156 := Blk.below hK147 H22
                              have hK157 := Blk.below hK148 H22
                              have hK158 := Blk.below hK149 H22
                              have hK159 := Blk.below hK150 H22
                              have hK160 := Blk.below hK151 H22
                              have hK161 := Blk.below hK152 H22
                              have hK162 := Blk.below hK153 H22
                              have hK163 := Blk.below hK154 H22
                              have hK164 := Blk.below hK155 H22
                              have hR102 := hR94.mono (kept_below H22 (by omega))
                              have hR103 := hR95.mono (kept_below H22 (by omega))
                              have hR104 := hR96.mono (kept_below H22 (by omega))
                              have hR105 := hR97.mono (kept_below H22 (by omega))
                              have hR106 := hR98.mono (kept_below H22 (by omega))
                              have hR107 := hR99.mono (kept_below H22 (by omega))
                              have hR108 := hR100.mono (kept_below H22 (by omega))
                              have hR109 := hR101.mono (kept_below H22 (by omega))
                              have hz22 := H22.size
                              rw [hk1_parR]
                              refine RW.yl rfl rfl rfl (Yl.pickT rfl rfl rfl) ?_
                              refine RW.yl rfl rfl rfl (Yl.assign rfl rfl) ?_
                              refine RW.nil ?_
                              change CW _ _ _ _ _ _
                              refine CW.ret ?_
                              change FinQ _ _ _ _ _ _
                              refine fin1 (.inr rfl) rfl rfl ?_
                              exact ⟨_, rfl, bval (by first | rfl | exact decide_eq_true (by omega) | exact decide_eq_true (by assumption)), hB31⟩))
                      ·
                        have hq8 := of_decide_eq_false hg9
                        first
                        | (exfalso; omega)
                        | (
                          refine CW.region ?_
                          refine RW.yl rfl rfl rfl (Yl.move rfl rfl) ?_
                          refine RW.yl rfl rfl rfl (Yl.eqb (Yl.neq rfl rfl rfl) (congrArg (fun b => !b) hg9)) ?_
                          refine RW.yl rfl rfl rfl (Yl.move rfl rfl) ?_
                          refine RW.skip rfl rfl rfl ?_
                          refine RW.skip rfl rfl rfl ?_
                          refine RW.yl rfl rfl rfl (Yl.pickT rfl rfl rfl) ?_
                          refine RW.nil ?_
                          change CW _ _ _ _ _ _
                          refine CW.condT rfl ?_
                          refine CW.seq ?_
                          refine CW.region ?_
                          refine RW.yl rfl rfl rfl (Yl.assign rfl rfl) ?_
                          refine RW.nil ?_
                          change CW _ _ _ _ _ _
                          refine CW.ret ?_
                          change FinQ _ _ _ _ _ _
                          refine fin1 (.inr rfl) rfl rfl ?_
                          exact ⟨_, rfl, bval (by first | rfl | exact decide_eq_true (by omega) | exact decide_eq_true (by assumption)), hB24⟩))
                  ·
                    intro hg14
                    have hq14 := of_decide_eq_false hg14
                    first
                    | (exfalso; omega)
                    | (
                      refine CW.skip ?_
                      change CW _ _ _ _ _ _
                      refine CW.seq ?_
                      refine CW.region ?_
                      refine RW.yl rfl rfl rfl (Yl.loadAgg (cs := [.slice p a.length ca]) rfl rfl many24 (Blk.cells hK34)) ?_
                      refine RW.yl rfl rfl rfl (Yl.loadAgg (cs := [.slice p2 b.length cb]) rfl rfl many24 (Blk.cells hK35)) ?_
                      refine RW.fn rfl rfl rfl (Yc.func #[.agg #[.slice p a.length ca], .agg #[.slice p2 b.length cb]] rfl ok21 (args2 rfl rfl)) (c21 ((hv.mono (kept_from hB0 hB13 (Nat.le_refl _))).wide (Nat.zero_le _) (by omega)) ((hu.mono (kept_from hB0 hB13 (Nat.le_refl _))).wide (Nat.zero_le _) (by omega))) ?_
                      rintro _ w32 ⟨s9, rfl, hR110, H23⟩
                      obtain ⟨ps9, cs9, rfl, hl9⟩ := hR110.form
                      have hB32 := Bl.step hB13 H23
                      have hK165 := Blk.below hK34 H23
                      have hK166 := Blk.below hK35 H23
                      have hK167 := Blk.below hK36 H23
                      have hK168 := Blk.below hK37 H23
                      have hK169 := Blk.below hK38 H23
                      have hR111 := hR8.mono (kept_below H23 (by omega))
                      have hR112 := hR9.mono (kept_below H23 (by omega))
                      have hz23 := H23.size
                      refine RW.yl rfl rfl rfl (Yl.move rfl rfl) ?_
                      refine RW.yl rfl rfl rfl (Yl.extract rfl rfl rfl) ?_
                      refine RW.yl rfl rfl rfl (Yl.extract rfl rfl rfl) ?_
                      refine RW.stoAll (cs' := #[.slice ps9 (((parR a b).1).length) cs9]) rfl rfl hK168 (Yu.storeAll rfl rfl rfl sz24 hK168 rfl (by simp [Value.oneCell'])) ?_
                      intro w33 H24
                      have hB33 := Bl.sto hB32 H24 lo_b4
                      have hK170 := Blk.sto hK165 H24 ne4
                      have hK171 := Blk.sto hK166 H24 ne5
                      have hK172 := Blk.sto hK167 H24 ne6
                      have hK173 := H24.blk
                      have hK174 := Blk.sto hK169 H24 ne10.symm
                      have hR113 := hR111.mono (kept_sto H24 (by omega) (by omega))
                      have hR114 := hR112.mono (kept_sto H24 (by omega) (by omega))
                      have hR115 := hR110.mono (kept_sto H24 (by omega) (by omega))
                      have hz24 := H24.size
                      refine RW.yl rfl rfl rfl (Yl.assign rfl rfl) ?_
                      refine RW.nil ?_
                      change CW _ _ _ _ _ _
                      refine CW.seq ?_
                      refine CW.region ?_
                      refine RW.yl rfl rfl rfl (Yl.loadAgg (cs := [.slice p2 b.length cb]) rfl rfl many24 (Blk.cells hK171)) ?_
                      refine RW.yl rfl rfl rfl (Yl.loadAgg (cs := [.slice p3 c.length cc]) rfl rfl many24 (Blk.cells hK172)) ?_
                      refine RW.fn rfl rfl rfl (Yc.func #[.agg #[.slice p2 b.length cb], .agg #[.slice p3 c.length cc]] rfl ok21 (args2 rfl rfl)) (c21 ((hu.mono (kept_from hB0 hB33 (Nat.le_refl _))).wide (Nat.zero_le _) (by omega)) ((ht.mono (kept_from hB0 hB33 (Nat.le_refl _))).wide (Nat.zero_le _) (by omega))) ?_
                      rintro _ w34 ⟨s10, rfl, hR116, H25⟩
                      obtain ⟨ps10, cs10, rfl, hl10⟩ := hR116.form
                      have hB34 := Bl.step hB33 H25
                      have hK175 := Blk.below hK170 H25
                      have hK176 := Blk.below hK171 H25
                      have hK177 := Blk.below hK172 H25
                      have hK178 := Blk.below hK173 H25
                      have hK179 := Blk.below hK174 H25
                      have hR117 := hR113.mono (kept_below H25 (by omega))
                      have hR118 := hR114.mono (kept_below H25 (by omega))
                      have hR119 := hR115.mono (kept_below H25 (by omega))
                      have hz25 := H25.size
                      refine RW.yl rfl rfl rfl (Yl.move rfl rfl) ?_
                      refine RW.yl rfl rfl rfl (Yl.extract rfl rfl rfl) ?_
                      refine RW.yl rfl rfl rfl (Yl.extract rfl rfl rfl) ?_
                      refine RW.stoAll (cs' := #[.slice ps10 (((parR b c).1).length) cs10]) rfl rfl hK179 (Yu.storeAll rfl rfl rfl sz24 hK179 rfl (by simp [Value.oneCell'])) ?_
                      intro w35 H26
                      have hB35 := Bl.sto hB34 H26 lo_b5
                      have hK180 := Blk.sto hK175 H26 ne7
                      have hK181 := Blk.sto hK176 H26 ne8
                      have hK182 := Blk.sto hK177 H26 ne9
                      have hK183 := Blk.sto hK178 H26 ne10
                      have hK184 := H26.blk
                      have hR120 := hR117.mono (kept_sto H26 (by omega) (by omega))
                      have hR121 := hR118.mono (kept_sto H26 (by omega) (by omega))
                      have hR122 := hR119.mono (kept_sto H26 (by omega) (by omega))
                      have hR123 := hR116.mono (kept_sto H26 (by omega) (by omega))
                      have hz26 := H26.size
                      refine RW.yl rfl rfl rfl (Yl.assign rfl rfl) ?_
                      refine RW.nil ?_
                      change CW _ _ _ _ _ _
                      refine CW.seq ?_
                      refine CW.seq ?_
                      rcases Bool.eq_false_or_eq_true (decide (((parR a b).2) = 0)) with hg15 | hg15
                      ·
                        have hq15 := of_decide_eq_true hg15
                        have hparR := hg15
                        first
                        | (exfalso; omega)
                        | (
                          refine CW.region ?_
                          refine RW.yl rfl rfl rfl (Yl.move rfl rfl) ?_
                          refine RW.yl rfl rfl rfl (Yl.eqb (Yl.neq rfl rfl rfl) (congrArg (fun b => !b) hg15)) ?_
                          refine RW.yl rfl rfl rfl (Yl.move rfl rfl) ?_
                          refine RW.yl rfl rfl rfl (Yl.move rfl rfl) ?_
                          refine RW.yl rfl rfl rfl (Yl.neq rfl rfl rfl) ?_
                          refine RW.yl rfl rfl rfl (Yl.pickF rfl rfl rfl) ?_
                          refine RW.nil ?_
                          change CW _ _ _ _ _ _
                          refine CW.cond rfl ?_ ?_
                          ·
                            intro hg16
                            have hg17 : decide (((parR b c).2) = 0) = false := not_t hg16
                            have hq17 := of_decide_eq_false hg17
                            first
                            | (exfalso; omega)
                            | (
                              refine CW.seq ?_
                              refine CW.region ?_
                              refine RW.yl rfl rfl rfl (Yl.assign rfl rfl) ?_
                              refine RW.nil ?_
                              change CW _ _ _ _ _ _
                              refine CW.ret ?_
                              change FinQ _ _ _ _ _ _
                              refine fin1 (.inr rfl) rfl rfl ?_
                              exact ⟨_, rfl, bval (by first | rfl | exact decide_eq_true (by omega) | exact decide_eq_true (by assumption)), hB35⟩)
                          ·
                            intro hg18
                            have hg19 : decide (((parR b c).2) = 0) = true := not_f hg18
                            have hq19 := of_decide_eq_true hg19
                            have hass_parR : (parR ((parR a b).1) c) = (parR a ((parR b c).1)) := par_assoc (of_decide_eq_true hparR) (of_decide_eq_true hg19)
                            have hk2_parR : decide (((parR ((parR a b).1) c).2) = ((parR a ((parR b c).1)).2)) = true := decide_eq_true (by rw [hass_parR])
                            have hk1_parR : decide ((parR ((parR a b).1) c).1 = (parR a ((parR b c).1)).1) = true := decide_eq_true (by rw [hass_parR])
                            first
                            | (exfalso; omega)
                            | (
                              refine CW.skip ?_
                              change CW _ _ _ _ _ _
                              refine CW.seq ?_
                              refine CW.region ?_
                              refine RW.yl rfl rfl rfl (Yl.loadAgg (cs := [.slice ps9 (((parR a b).1).length) cs9]) rfl rfl many24 (Blk.cells hK183)) ?_
                              refine RW.yl rfl rfl rfl (Yl.loadAgg (cs := [.slice p3 c.length cc]) rfl rfl many24 (Blk.cells hK182)) ?_
                              refine RW.fn rfl rfl rfl (Yc.func #[.agg #[.slice ps9 (((parR a b).1).length) cs9], .agg #[.slice p3 c.length cc]] rfl ok21 (args2 rfl rfl)) (c21 (hR122.wide (Nat.zero_le _) (by omega)) ((ht.mono (kept_from hB0 hB35 (Nat.le_refl _))).wide (Nat.zero_le _) (by omega))) ?_
                              rintro _ w36 ⟨s11, rfl, hR124, H27⟩
                              obtain ⟨ps11, cs11, rfl, hl11⟩ := hR124.form
                              have hB36 := Bl.step hB35 H27
                              have hK185 := Blk.below hK180 H27
                              have hK186 := Blk.below hK181 H27
                              have hK187 := Blk.below hK182 H27
                              have hK188 := Blk.below hK183 H27
                              have hK189 := Blk.below hK184 H27
                              have hR125 := hR120.mono (kept_below H27 (by omega))
                              have hR126 := hR121.mono (kept_below H27 (by omega))
                              have hR127 := hR122.mono (kept_below H27 (by omega))
                              have hR128 := hR123.mono (kept_below H27 (by omega))
                              have hz27 := H27.size
                              refine RW.yl rfl rfl rfl (Yl.move rfl rfl) ?_
                              refine RW.yl rfl rfl rfl (Yl.extract rfl rfl rfl) ?_
                              refine RW.yl rfl rfl rfl (Yl.extract rfl rfl rfl) ?_
                              refine RW.newP (cs := #[.slice none 0 0]) (T := 24) rfl rfl rfl (Yv.alloc (z := .agg #[.slice none 0 0]) rfl zero24) ?_
                              intro b10 w37 N10
                              have ne37 := New.ne N10 hK185
                              have ne38 := New.ne N10 hK186
                              have ne39 := New.ne N10 hK187
                              have ne40 := New.ne N10 hK188
                              have ne41 := New.ne N10 hK189
                              have lo_b10 : w.heap.size ≤ b10 := by have := hB36.size; have := N10.num; omega
                              have hn_b10 := N10.num
                              have hs_b10 := N10.size
                              have hB37 := Bl.step hB36 N10.below
                              have hK190 := Blk.below hK185 N10.below
                              have hK191 := Blk.below hK186 N10.below
                              have hK192 := Blk.below hK187 N10.below
                              have hK193 := Blk.below hK188 N10.below
                              have hK194 := Blk.below hK189 N10.below
                              have hR129 := hR125.mono (kept_below N10.below (by omega))
                              have hR130 := hR126.mono (kept_below N10.below (by omega))
                              have hR131 := hR127.mono (kept_below N10.below (by omega))
                              have hR132 := hR128.mono (kept_below N10.below (by omega))
                              have hR133 := hR124.mono (kept_below N10.below (by omega))
                              refine RW.stoAll (cs' := #[.slice ps11 (((parR ((parR a b).1) c).1).length) cs11]) rfl rfl N10.blk (Yu.storeAll rfl rfl rfl sz24 N10.blk rfl (by simp [Value.oneCell'])) ?_
                              intro w38 H28
                              have hB38 := Bl.sto hB37 H28 lo_b10
                              have hK195 := Blk.sto hK190 H28 ne37
                              have hK196 := Blk.sto hK191 H28 ne38
                              have hK197 := Blk.sto hK192 H28 ne39
                              have hK198 := Blk.sto hK193 H28 ne40
                              have hK199 := Blk.sto hK194 H28 ne41
                              have hK200 := H28.blk
                              have hR134 := hR129.mono (kept_sto H28 (by omega) (by omega))
                              have hR135 := hR130.mono (kept_sto H28 (by omega) (by omega))
                              have hR136 := hR131.mono (kept_sto H28 (by omega) (by omega))
                              have hR137 := hR132.mono (kept_sto H28 (by omega) (by omega))
                              have hR138 := hR133.mono (kept_sto H28 (by omega) (by omega))
                              have hz28 := H28.size
                              refine RW.yl rfl rfl rfl (Yl.assign rfl rfl) ?_
                              refine RW.nil ?_
                              change CW _ _ _ _ _ _
                              refine CW.seq ?_
                              refine CW.region ?_
                              refine RW.yl rfl rfl rfl (Yl.loadAgg (cs := [.slice p a.length ca]) rfl rfl many24 (Blk.cells hK195)) ?_
                              refine RW.yl rfl rfl rfl (Yl.loadAgg (cs := [.slice ps10 (((parR b c).1).length) cs10]) rfl rfl many24 (Blk.cells hK199)) ?_
                              refine RW.fn rfl rfl rfl (Yc.func #[.agg #[.slice p a.length ca], .agg #[.slice ps10 (((parR b c).1).length) cs10]] rfl ok21 (args2 rfl rfl)) (c21 ((hv.mono (kept_from hB0 hB38 (Nat.le_refl _))).wide (Nat.zero_le _) (by omega)) (hR137.wide (Nat.zero_le _) (by omega))) ?_
                              rintro _ w39 ⟨s12, rfl, hR139, H29⟩
                              obtain ⟨ps12, cs12, rfl, hl12⟩ := hR139.form
                              have hB39 := Bl.step hB38 H29
                              have hK201 := Blk.below hK195 H29
                              have hK202 := Blk.below hK196 H29
                              have hK203 := Blk.below hK197 H29
                              have hK204 := Blk.below hK198 H29
                              have hK205 := Blk.below hK199 H29
                              have hK206 := Blk.below hK200 H29
                              have hR140 := hR134.mono (kept_below H29 (by omega))
                              have hR141 := hR135.mono (kept_below H29 (by omega))
                              have hR142 := hR136.mono (kept_below H29 (by omega))
                              have hR143 := hR137.mono (kept_below H29 (by omega))
                              have hR144 := hR138.mono (kept_below H29 (by omega))
                              have hz29 := H29.size
                              refine RW.yl rfl rfl rfl (Yl.move rfl rfl) ?_
                              refine RW.yl rfl rfl rfl (Yl.extract rfl rfl rfl) ?_
                              refine RW.yl rfl rfl rfl (Yl.extract rfl rfl rfl) ?_
                              refine RW.newP (cs := #[.slice none 0 0]) (T := 24) rfl rfl rfl (Yv.alloc (z := .agg #[.slice none 0 0]) rfl zero24) ?_
                              intro b11 w40 N11
                              have ne42 := New.ne N11 hK201
                              have ne43 := New.ne N11 hK202
                              have ne44 := New.ne N11 hK203
                              have ne45 := New.ne N11 hK204
                              have ne46 := New.ne N11 hK205
                              have ne47 := New.ne N11 hK206
                              have lo_b11 : w.heap.size ≤ b11 := by have := hB39.size; have := N11.num; omega
                              have hn_b11 := N11.num
                              have hs_b11 := N11.size
                              have hB40 := Bl.step hB39 N11.below
                              have hK207 := Blk.below hK201 N11.below
                              have hK208 := Blk.below hK202 N11.below
                              have hK209 := Blk.below hK203 N11.below
                              have hK210 := Blk.below hK204 N11.below
                              have hK211 := Blk.below hK205 N11.below
                              have hK212 := Blk.below hK206 N11.below
                              have hR145 := hR140.mono (kept_below N11.below (by omega))
                              have hR146 := hR141.mono (kept_below N11.below (by omega))
                              have hR147 := hR142.mono (kept_below N11.below (by omega))
                              have hR148 := hR143.mono (kept_below N11.below (by omega))
                              have hR149 := hR144.mono (kept_below N11.below (by omega))
                              have hR150 := hR139.mono (kept_below N11.below (by omega))
                              refine RW.stoAll (cs' := #[.slice ps12 (((parR a ((parR b c).1)).1).length) cs12]) rfl rfl N11.blk (Yu.storeAll rfl rfl rfl sz24 N11.blk rfl (by simp [Value.oneCell'])) ?_
                              intro w41 H30
                              have hB41 := Bl.sto hB40 H30 lo_b11
                              have hK213 := Blk.sto hK207 H30 ne42
                              have hK214 := Blk.sto hK208 H30 ne43
                              have hK215 := Blk.sto hK209 H30 ne44
                              have hK216 := Blk.sto hK210 H30 ne45
                              have hK217 := Blk.sto hK211 H30 ne46
                              have hK218 := Blk.sto hK212 H30 ne47
                              have hK219 := H30.blk
                              have hR151 := hR145.mono (kept_sto H30 (by omega) (by omega))
                              have hR152 := hR146.mono (kept_sto H30 (by omega) (by omega))
                              have hR153 := hR147.mono (kept_sto H30 (by omega) (by omega))
                              have hR154 := hR148.mono (kept_sto H30 (by omega) (by omega))
                              have hR155 := hR149.mono (kept_sto H30 (by omega) (by omega))
                              have hR156 := hR150.mono (kept_sto H30 (by omega) (by omega))
                              have hz30 := H30.size
                              refine RW.yl rfl rfl rfl (Yl.assign rfl rfl) ?_
                              refine RW.nil ?_
                              change CW _ _ _ _ _ _
                              refine CW.seq ?_
                              refine CW.region ?_
                              refine RW.yl rfl rfl rfl (Yl.move rfl rfl) ?_
                              refine RW.yl rfl rfl rfl (Yl.move rfl rfl) ?_
                              refine RW.yl rfl rfl rfl (Yl.eqb (Yl.eql rfl rfl rfl) hk2_parR) ?_
                              refine RW.yl rfl rfl rfl (Yl.move rfl rfl) ?_
                              refine RW.yl rfl rfl rfl (Yl.loadAgg (cs := [.slice ps11 (((parR ((parR a b).1) c).1).length) cs11]) rfl rfl many24 (Blk.cells hK218)) ?_
                              refine RW.yl rfl rfl rfl (Yl.loadAgg (cs := [.slice ps12 (((parR a ((parR b c).1)).1).length) cs12]) rfl rfl many24 (Blk.cells hK219)) ?_
                              refine RW.fn rfl rfl rfl (Yc.func #[.agg #[.slice ps11 (((parR ((parR a b).1) c).1).length) cs11], .agg #[.slice ps12 (((parR a ((parR b c).1)).1).length) cs12]] rfl ok19 (args2 rfl rfl)) (c19 (hR155.wide (Nat.zero_le _) (by omega)) (hR156.wide (Nat.zero_le _) (by omega))) ?_
                              rintro _ w42 ⟨rfl, H31⟩
                              have hB42 := Bl.step hB41 H31
                              have hK220 := Blk.below hK213 H31
                              have hK221 := Blk.below hK214 H31
                              have hK222 := Blk.below hK215 H31
                              have hK223 := Blk.below hK216 H31
                              have hK224 := Blk.below hK217 H31
                              have hK225 := Blk.below hK218 H31
                              have hK226 := Blk.below hK219 H31
                              have hR157 := hR151.mono (kept_below H31 (by omega))
                              have hR158 := hR152.mono (kept_below H31 (by omega))
                              have hR159 := hR153.mono (kept_below H31 (by omega))
                              have hR160 := hR154.mono (kept_below H31 (by omega))
                              have hR161 := hR155.mono (kept_below H31 (by omega))
                              have hR162 := hR156.mono (kept_below H31 (by omega))
                              have hz31 := H31.size
                              rw [hk1_parR]
                              refine RW.yl rfl rfl rfl (Yl.pickT rfl rfl rfl) ?_
                              refine RW.yl rfl rfl rfl (Yl.assign rfl rfl) ?_
                              refine RW.nil ?_
                              change CW _ _ _ _ _ _
                              refine CW.ret ?_
                              change FinQ _ _ _ _ _ _
                              refine fin1 (.inr rfl) rfl rfl ?_
                              exact ⟨_, rfl, bval (by first | rfl | exact decide_eq_true (by omega) | exact decide_eq_true (by assumption)), hB42⟩))
                      ·
                        have hq15 := of_decide_eq_false hg15
                        first
                        | (exfalso; omega)
                        | (
                          refine CW.region ?_
                          refine RW.yl rfl rfl rfl (Yl.move rfl rfl) ?_
                          refine RW.yl rfl rfl rfl (Yl.eqb (Yl.neq rfl rfl rfl) (congrArg (fun b => !b) hg15)) ?_
                          refine RW.yl rfl rfl rfl (Yl.move rfl rfl) ?_
                          refine RW.skip rfl rfl rfl ?_
                          refine RW.skip rfl rfl rfl ?_
                          refine RW.yl rfl rfl rfl (Yl.pickT rfl rfl rfl) ?_
                          refine RW.nil ?_
                          change CW _ _ _ _ _ _
                          refine CW.condT rfl ?_
                          refine CW.seq ?_
                          refine CW.region ?_
                          refine RW.yl rfl rfl rfl (Yl.assign rfl rfl) ?_
                          refine RW.nil ?_
                          change CW _ _ _ _ _ _
                          refine CW.ret ?_
                          change FinQ _ _ _ _ _ _
                          refine fin1 (.inr rfl) rfl rfl ?_
                          exact ⟨_, rfl, bval (by first | rfl | exact decide_eq_true (by omega) | exact decide_eq_true (by assumption)), hB35⟩)))
              ·
                have hq5 := of_decide_eq_false hg7
                first
                | (exfalso; omega)
                | (
                  refine CW.region ?_
                  refine RW.yl rfl rfl rfl (Yl.move rfl rfl) ?_
                  refine RW.yl rfl rfl rfl (Yl.eqb (Yl.eql rfl rfl rfl) hg7) ?_
                  refine RW.yl rfl rfl rfl (Yl.move rfl rfl) ?_
                  refine RW.skip rfl rfl rfl ?_
                  refine RW.skip rfl rfl rfl ?_
                  refine RW.yl rfl rfl rfl (Yl.pickF rfl rfl rfl) ?_
                  refine RW.nil ?_
                  change CW _ _ _ _ _ _
                  refine CW.condF rfl ?_
                  refine CW.skip ?_
                  change CW _ _ _ _ _ _
                  refine CW.seq ?_
                  refine CW.region ?_
                  refine RW.yl rfl rfl rfl (Yl.loadAgg (cs := [.slice p a.length ca]) rfl rfl many24 (Blk.cells hK34)) ?_
                  refine RW.yl rfl rfl rfl (Yl.loadAgg (cs := [.slice p2 b.length cb]) rfl rfl many24 (Blk.cells hK35)) ?_
                  refine RW.fn rfl rfl rfl (Yc.func #[.agg #[.slice p a.length ca], .agg #[.slice p2 b.length cb]] rfl ok21 (args2 rfl rfl)) (c21 ((hv.mono (kept_from hB0 hB13 (Nat.le_refl _))).wide (Nat.zero_le _) (by omega)) ((hu.mono (kept_from hB0 hB13 (Nat.le_refl _))).wide (Nat.zero_le _) (by omega))) ?_
                  rintro _ w43 ⟨s13, rfl, hR163, H32⟩
                  obtain ⟨ps13, cs13, rfl, hl13⟩ := hR163.form
                  have hB43 := Bl.step hB13 H32
                  have hK227 := Blk.below hK34 H32
                  have hK228 := Blk.below hK35 H32
                  have hK229 := Blk.below hK36 H32
                  have hK230 := Blk.below hK37 H32
                  have hK231 := Blk.below hK38 H32
                  have hR164 := hR8.mono (kept_below H32 (by omega))
                  have hR165 := hR9.mono (kept_below H32 (by omega))
                  have hz32 := H32.size
                  refine RW.yl rfl rfl rfl (Yl.move rfl rfl) ?_
                  refine RW.yl rfl rfl rfl (Yl.extract rfl rfl rfl) ?_
                  refine RW.yl rfl rfl rfl (Yl.extract rfl rfl rfl) ?_
                  refine RW.stoAll (cs' := #[.slice ps13 (((parR a b).1).length) cs13]) rfl rfl hK230 (Yu.storeAll rfl rfl rfl sz24 hK230 rfl (by simp [Value.oneCell'])) ?_
                  intro w44 H33
                  have hB44 := Bl.sto hB43 H33 lo_b4
                  have hK232 := Blk.sto hK227 H33 ne4
                  have hK233 := Blk.sto hK228 H33 ne5
                  have hK234 := Blk.sto hK229 H33 ne6
                  have hK235 := H33.blk
                  have hK236 := Blk.sto hK231 H33 ne10.symm
                  have hR166 := hR164.mono (kept_sto H33 (by omega) (by omega))
                  have hR167 := hR165.mono (kept_sto H33 (by omega) (by omega))
                  have hR168 := hR163.mono (kept_sto H33 (by omega) (by omega))
                  have hz33 := H33.size
                  refine RW.yl rfl rfl rfl (Yl.assign rfl rfl) ?_
                  refine RW.nil ?_
                  change CW _ _ _ _ _ _
                  refine CW.seq ?_
                  refine CW.region ?_
                  refine RW.yl rfl rfl rfl (Yl.loadAgg (cs := [.slice p2 b.length cb]) rfl rfl many24 (Blk.cells hK233)) ?_
                  refine RW.yl rfl rfl rfl (Yl.loadAgg (cs := [.slice p3 c.length cc]) rfl rfl many24 (Blk.cells hK234)) ?_
                  refine RW.fn rfl rfl rfl (Yc.func #[.agg #[.slice p2 b.length cb], .agg #[.slice p3 c.length cc]] rfl ok21 (args2 rfl rfl)) (c21 ((hu.mono (kept_from hB0 hB44 (Nat.le_refl _))).wide (Nat.zero_le _) (by omega)) ((ht.mono (kept_from hB0 hB44 (Nat.le_refl _))).wide (Nat.zero_le _) (by omega))) ?_
                  rintro _ w45 ⟨s14, rfl, hR169, H34⟩
                  obtain ⟨ps14, cs14, rfl, hl14⟩ := hR169.form
                  have hB45 := Bl.step hB44 H34
                  have hK237 := Blk.below hK232 H34
                  have hK238 := Blk.below hK233 H34
                  have hK239 := Blk.below hK234 H34
                  have hK240 := Blk.below hK235 H34
                  have hK241 := Blk.below hK236 H34
                  have hR170 := hR166.mono (kept_below H34 (by omega))
                  have hR171 := hR167.mono (kept_below H34 (by omega))
                  have hR172 := hR168.mono (kept_below H34 (by omega))
                  have hz34 := H34.size
                  refine RW.yl rfl rfl rfl (Yl.move rfl rfl) ?_
                  refine RW.yl rfl rfl rfl (Yl.extract rfl rfl rfl) ?_
                  refine RW.yl rfl rfl rfl (Yl.extract rfl rfl rfl) ?_
                  refine RW.stoAll (cs' := #[.slice ps14 (((parR b c).1).length) cs14]) rfl rfl hK241 (Yu.storeAll rfl rfl rfl sz24 hK241 rfl (by simp [Value.oneCell'])) ?_
                  intro w46 H35
                  have hB46 := Bl.sto hB45 H35 lo_b5
                  have hK242 := Blk.sto hK237 H35 ne7
                  have hK243 := Blk.sto hK238 H35 ne8
                  have hK244 := Blk.sto hK239 H35 ne9
                  have hK245 := Blk.sto hK240 H35 ne10
                  have hK246 := H35.blk
                  have hR173 := hR170.mono (kept_sto H35 (by omega) (by omega))
                  have hR174 := hR171.mono (kept_sto H35 (by omega) (by omega))
                  have hR175 := hR172.mono (kept_sto H35 (by omega) (by omega))
                  have hR176 := hR169.mono (kept_sto H35 (by omega) (by omega))
                  have hz35 := H35.size
                  refine RW.yl rfl rfl rfl (Yl.assign rfl rfl) ?_
                  refine RW.nil ?_
                  change CW _ _ _ _ _ _
                  refine CW.seq ?_
                  refine CW.seq ?_
                  rcases Bool.eq_false_or_eq_true (decide (((parR a b).2) = 0)) with hg20 | hg20
                  ·
                    have hq20 := of_decide_eq_true hg20
                    have hparR := hg20
                    first
                    | (exfalso; omega)
                    | (
                      refine CW.region ?_
                      refine RW.yl rfl rfl rfl (Yl.move rfl rfl) ?_
                      refine RW.yl rfl rfl rfl (Yl.eqb (Yl.neq rfl rfl rfl) (congrArg (fun b => !b) hg20)) ?_
                      refine RW.yl rfl rfl rfl (Yl.move rfl rfl) ?_
                      refine RW.yl rfl rfl rfl (Yl.move rfl rfl) ?_
                      refine RW.yl rfl rfl rfl (Yl.neq rfl rfl rfl) ?_
                      refine RW.yl rfl rfl rfl (Yl.pickF rfl rfl rfl) ?_
                      refine RW.nil ?_
                      change CW _ _ _ _ _ _
                      refine CW.cond rfl ?_ ?_
                      ·
                        intro hg21
                        have hg22 : decide (((parR b c).2) = 0) = false := not_t hg21
                        have hq22 := of_decide_eq_false hg22
                        first
                        | (exfalso; omega)
                        | (
                          refine CW.seq ?_
                          refine CW.region ?_
                          refine RW.yl rfl rfl rfl (Yl.assign rfl rfl) ?_
                          refine RW.nil ?_
                          change CW _ _ _ _ _ _
                          refine CW.ret ?_
                          change FinQ _ _ _ _ _ _
                          refine fin1 (.inr rfl) rfl rfl ?_
                          exact ⟨_, rfl, bval (by first | rfl | exact decide_eq_true (by omega) | exact decide_eq_true (by assumption)), hB46⟩)
                      ·
                        intro hg23
                        have hg24 : decide (((parR b c).2) = 0) = true := not_f hg23
                        have hq24 := of_decide_eq_true hg24
                        have hass_parR : (parR ((parR a b).1) c) = (parR a ((parR b c).1)) := par_assoc (of_decide_eq_true hparR) (of_decide_eq_true hg24)
                        have hk2_parR : decide (((parR ((parR a b).1) c).2) = ((parR a ((parR b c).1)).2)) = true := decide_eq_true (by rw [hass_parR])
                        have hk1_parR : decide ((parR ((parR a b).1) c).1 = (parR a ((parR b c).1)).1) = true := decide_eq_true (by rw [hass_parR])
                        first
                        | (exfalso; omega)
                        | (
                          refine CW.skip ?_
                          change CW _ _ _ _ _ _
                          refine CW.seq ?_
                          refine CW.region ?_
                          refine RW.yl rfl rfl rfl (Yl.loadAgg (cs := [.slice ps13 (((parR a b).1).length) cs13]) rfl rfl many24 (Blk.cells hK245)) ?_
                          refine RW.yl rfl rfl rfl (Yl.loadAgg (cs := [.slice p3 c.length cc]) rfl rfl many24 (Blk.cells hK244)) ?_
                          refine RW.fn rfl rfl rfl (Yc.func #[.agg #[.slice ps13 (((parR a b).1).length) cs13], .agg #[.slice p3 c.length cc]] rfl ok21 (args2 rfl rfl)) (c21 (hR175.wide (Nat.zero_le _) (by omega)) ((ht.mono (kept_from hB0 hB46 (Nat.le_refl _))).wide (Nat.zero_le _) (by omega))) ?_
                          rintro _ w47 ⟨s15, rfl, hR177, H36⟩
                          obtain ⟨ps15, cs15, rfl, hl15⟩ := hR177.form
                          have hB47 := Bl.step hB46 H36
                          have hK247 := Blk.below hK242 H36
                          have hK248 := Blk.below hK243 H36
                          have hK249 := Blk.below hK244 H36
                          have hK250 := Blk.below hK245 H36
                          have hK251 := Blk.below hK246 H36
                          have hR178 := hR173.mono (kept_below H36 (by omega))
                          have hR179 := hR174.mono (kept_below H36 (by omega))
                          have hR180 := hR175.mono (kept_below H36 (by omega))
                          have hR181 := hR176.mono (kept_below H36 (by omega))
                          have hz36 := H36.size
                          refine RW.yl rfl rfl rfl (Yl.move rfl rfl) ?_
                          refine RW.yl rfl rfl rfl (Yl.extract rfl rfl rfl) ?_
                          refine RW.yl rfl rfl rfl (Yl.extract rfl rfl rfl) ?_
                          refine RW.newP (cs := #[.slice none 0 0]) (T := 24) rfl rfl rfl (Yv.alloc (z := .agg #[.slice none 0 0]) rfl zero24) ?_
                          intro b12 w48 N12
                          have ne48 := New.ne N12 hK247
                          have ne49 := New.ne N12 hK248
                          have ne50 := New.ne N12 hK249
                          have ne51 := New.ne N12 hK250
                          have ne52 := New.ne N12 hK251
                          have lo_b12 : w.heap.size ≤ b12 := by have := hB47.size; have := N12.num; omega
                          have hn_b12 := N12.num
                          have hs_b12 := N12.size
                          have hB48 := Bl.step hB47 N12.below
                          have hK252 := Blk.below hK247 N12.below
                          have hK253 := Blk.below hK248 N12.below
                          have hK254 := Blk.below hK249 N12.below
                          have hK255 := Blk.below hK250 N12.below
                          have hK256 := Blk.below hK251 N12.below
                          have hR182 := hR178.mono (kept_below N12.below (by omega))
                          have hR183 := hR179.mono (kept_below N12.below (by omega))
                          have hR184 := hR180.mono (kept_below N12.below (by omega))
                          have hR185 := hR181.mono (kept_below N12.below (by omega))
                          have hR186 := hR177.mono (kept_below N12.below (by omega))
                          refine RW.stoAll (cs' := #[.slice ps15 (((parR ((parR a b).1) c).1).length) cs15]) rfl rfl N12.blk (Yu.storeAll rfl rfl rfl sz24 N12.blk rfl (by simp [Value.oneCell'])) ?_
                          intro w49 H37
                          have hB49 := Bl.sto hB48 H37 lo_b12
                          have hK257 := Blk.sto hK252 H37 ne48
                          have hK258 := Blk.sto hK253 H37 ne49
                          have hK259 := Blk.sto hK254 H37 ne50
                          have hK260 := Blk.sto hK255 H37 ne51
                          have hK261 := Blk.sto hK256 H37 ne52
                          have hK262 := H37.blk
                          have hR187 := hR182.mono (kept_sto H37 (by omega) (by omega))
                          have hR188 := hR183.mono (kept_sto H37 (by omega) (by omega))
                          have hR189 := hR184.mono (kept_sto H37 (by omega) (by omega))
                          have hR190 := hR185.mono (kept_sto H37 (by omega) (by omega))
                          have hR191 := hR186.mono (kept_sto H37 (by omega) (by omega))
                          have hz37 := H37.size
                          refine RW.yl rfl rfl rfl (Yl.assign rfl rfl) ?_
                          refine RW.nil ?_
                          change CW _ _ _ _ _ _
                          refine CW.seq ?_
                          refine CW.region ?_
                          refine RW.yl rfl rfl rfl (Yl.loadAgg (cs := [.slice p a.length ca]) rfl rfl many24 (Blk.cells hK257)) ?_
                          refine RW.yl rfl rfl rfl (Yl.loadAgg (cs := [.slice ps14 (((parR b c).1).length) cs14]) rfl rfl many24 (Blk.cells hK261)) ?_
                          refine RW.fn rfl rfl rfl (Yc.func #[.agg #[.slice p a.length ca], .agg #[.slice ps14 (((parR b c).1).length) cs14]] rfl ok21 (args2 rfl rfl)) (c21 ((hv.mono (kept_from hB0 hB49 (Nat.le_refl _))).wide (Nat.zero_le _) (by omega)) (hR190.wide (Nat.zero_le _) (by omega))) ?_
                          rintro _ w50 ⟨s16, rfl, hR192, H38⟩
                          obtain ⟨ps16, cs16, rfl, hl16⟩ := hR192.form
                          have hB50 := Bl.step hB49 H38
                          have hK263 := Blk.below hK257 H38
                          have hK264 := Blk.below hK258 H38
                          have hK265 := Blk.below hK259 H38
                          have hK266 := Blk.below hK260 H38
                          have hK267 := Blk.below hK261 H38
                          have hK268 := Blk.below hK262 H38
                          have hR193 := hR187.mono (kept_below H38 (by omega))
                          have hR194 := hR188.mono (kept_below H38 (by omega))
                          have hR195 := hR189.mono (kept_below H38 (by omega))
                          have hR196 := hR190.mono (kept_below H38 (by omega))
                          have hR197 := hR191.mono (kept_below H38 (by omega))
                          have hz38 := H38.size
                          refine RW.yl rfl rfl rfl (Yl.move rfl rfl) ?_
                          refine RW.yl rfl rfl rfl (Yl.extract rfl rfl rfl) ?_
                          refine RW.yl rfl rfl rfl (Yl.extract rfl rfl rfl) ?_
                          refine RW.newP (cs := #[.slice none 0 0]) (T := 24) rfl rfl rfl (Yv.alloc (z := .agg #[.slice none 0 0]) rfl zero24) ?_
                          intro b13 w51 N13
                          have ne53 := New.ne N13 hK263
                          have ne54 := New.ne N13 hK264
                          have ne55 := New.ne N13 hK265
                          have ne56 := New.ne N13 hK266
                          have ne57 := New.ne N13 hK267
                          have ne58 := New.ne N13 hK268
                          have lo_b13 : w.heap.size ≤ b13 := by have := hB50.size; have := N13.num; omega
                          have hn_b13 := N13.num
                          have hs_b13 := N13.size
                          have hB51 := Bl.step hB50 N13.below
                          have hK269 := Blk.below hK263 N13.below
                          have hK270 := Blk.below hK264 N13.below
                          have hK271 := Blk.below hK265 N13.below
                          have hK272 := Blk.below hK266 N13.below
                          have hK273 := Blk.below hK267 N13.below
                          have hK274 := Blk.below hK268 N13.below
                          have hR198 := hR193.mono (kept_below N13.below (by omega))
                          have hR199 := hR194.mono (kept_below N13.below (by omega))
                          have hR200 := hR195.mono (kept_below N13.below (by omega))
                          have hR201 := hR196.mono (kept_below N13.below (by omega))
                          have hR202 := hR197.mono (kept_below N13.below (by omega))
                          have hR203 := hR192.mono (kept_below N13.below (by omega))
                          refine RW.stoAll (cs' := #[.slice ps16 (((parR a ((parR b c).1)).1).length) cs16]) rfl rfl N13.blk (Yu.storeAll rfl rfl rfl sz24 N13.blk rfl (by simp [Value.oneCell'])) ?_
                          intro w52 H39
                          have hB52 := Bl.sto hB51 H39 lo_b13
                          have hK275 := Blk.sto hK269 H39 ne53
                          have hK276 := Blk.sto hK270 H39 ne54
                          have hK277 := Blk.sto hK271 H39 ne55
                          have hK278 := Blk.sto hK272 H39 ne56
                          have hK279 := Blk.sto hK273 H39 ne57
                          have hK280 := Blk.sto hK274 H39 ne58
                          have hK281 := H39.blk
                          have hR204 := hR198.mono (kept_sto H39 (by omega) (by omega))
                          have hR205 := hR199.mono (kept_sto H39 (by omega) (by omega))
                          have hR206 := hR200.mono (kept_sto H39 (by omega) (by omega))
                          have hR207 := hR201.mono (kept_sto H39 (by omega) (by omega))
                          have hR208 := hR202.mono (kept_sto H39 (by omega) (by omega))
                          have hR209 := hR203.mono (kept_sto H39 (by omega) (by omega))
                          have hz39 := H39.size
                          refine RW.yl rfl rfl rfl (Yl.assign rfl rfl) ?_
                          refine RW.nil ?_
                          change CW _ _ _ _ _ _
                          refine CW.seq ?_
                          refine CW.region ?_
                          refine RW.yl rfl rfl rfl (Yl.move rfl rfl) ?_
                          refine RW.yl rfl rfl rfl (Yl.move rfl rfl) ?_
                          refine RW.yl rfl rfl rfl (Yl.eqb (Yl.eql rfl rfl rfl) hk2_parR) ?_
                          refine RW.yl rfl rfl rfl (Yl.move rfl rfl) ?_
                          refine RW.yl rfl rfl rfl (Yl.loadAgg (cs := [.slice ps15 (((parR ((parR a b).1) c).1).length) cs15]) rfl rfl many24 (Blk.cells hK280)) ?_
                          refine RW.yl rfl rfl rfl (Yl.loadAgg (cs := [.slice ps16 (((parR a ((parR b c).1)).1).length) cs16]) rfl rfl many24 (Blk.cells hK281)) ?_
                          refine RW.fn rfl rfl rfl (Yc.func #[.agg #[.slice ps15 (((parR ((parR a b).1) c).1).length) cs15], .agg #[.slice ps16 (((parR a ((parR b c).1)).1).length) cs16]] rfl ok19 (args2 rfl rfl)) (c19 (hR208.wide (Nat.zero_le _) (by omega)) (hR209.wide (Nat.zero_le _) (by omega))) ?_
                          rintro _ w53 ⟨rfl, H40⟩
                          have hB53 := Bl.step hB52 H40
                          have hK282 := Blk.below hK275 H40
                          have hK283 := Blk.below hK276 H40
                          have hK284 := Blk.below hK277 H40
                          have hK285 := Blk.below hK278 H40
                          have hK286 := Blk.below hK279 H40
                          have hK287 := Blk.below hK280 H40
                          have hK288 := Blk.below hK281 H40
                          have hR210 := hR204.mono (kept_below H40 (by omega))
                          have hR211 := hR205.mono (kept_below H40 (by omega))
                          have hR212 := hR206.mono (kept_below H40 (by omega))
                          have hR213 := hR207.mono (kept_below H40 (by omega))
                          have hR214 := hR208.mono (kept_below H40 (by omega))
                          have hR215 := hR209.mono (kept_below H40 (by omega))
                          have hz40 := H40.size
                          rw [hk1_parR]
                          refine RW.yl rfl rfl rfl (Yl.pickT rfl rfl rfl) ?_
                          refine RW.yl rfl rfl rfl (Yl.assign rfl rfl) ?_
                          refine RW.nil ?_
                          change CW _ _ _ _ _ _
                          refine CW.ret ?_
                          change FinQ _ _ _ _ _ _
                          refine fin1 (.inr rfl) rfl rfl ?_
                          exact ⟨_, rfl, bval (by first | rfl | exact decide_eq_true (by omega) | exact decide_eq_true (by assumption)), hB53⟩))
                  ·
                    have hq20 := of_decide_eq_false hg20
                    first
                    | (exfalso; omega)
                    | (
                      refine CW.region ?_
                      refine RW.yl rfl rfl rfl (Yl.move rfl rfl) ?_
                      refine RW.yl rfl rfl rfl (Yl.eqb (Yl.neq rfl rfl rfl) (congrArg (fun b => !b) hg20)) ?_
                      refine RW.yl rfl rfl rfl (Yl.move rfl rfl) ?_
                      refine RW.skip rfl rfl rfl ?_
                      refine RW.skip rfl rfl rfl ?_
                      refine RW.yl rfl rfl rfl (Yl.pickT rfl rfl rfl) ?_
                      refine RW.nil ?_
                      change CW _ _ _ _ _ _
                      refine CW.condT rfl ?_
                      refine CW.seq ?_
                      refine CW.region ?_
                      refine RW.yl rfl rfl rfl (Yl.assign rfl rfl) ?_
                      refine RW.nil ?_
                      change CW _ _ _ _ _ _
                      refine CW.ret ?_
                      change FinQ _ _ _ _ _ _
                      refine fin1 (.inr rfl) rfl rfl ?_
                      exact ⟨_, rfl, bval (by first | rfl | exact decide_eq_true (by omega) | exact decide_eq_true (by assumption)), hB46⟩))))
      ·
        first
        | (exfalso; omega)
        | (
          refine CW.region ?_
          refine RW.yl rfl rfl rfl (Yl.loadAgg (cs := [.slice p a.length ca]) rfl rfl many24 (Blk.cells hK4)) ?_
          refine RW.fn rfl rfl rfl (Yc.func #[.agg #[.slice p a.length ca], .int .i64 6] rfl ok13 (args2 rfl rfl)) (c13 ((hv.mono (kept_from hB0 hB4 (Nat.le_refl _))).wide (Nat.zero_le _) (by omega))) ?_
          rintro _ w54 ⟨rfl, H41⟩
          have hB54 := Bl.step hB4 H41
          have hK289 := Blk.below hK4 H41
          have hK290 := Blk.below hK5 H41
          have hK291 := Blk.below hK6 H41
          have hz41 := H41.size
          rw [hg1]
          refine RW.yl rfl rfl rfl (Yl.not rfl rfl) ?_
          refine RW.yl rfl rfl rfl (Yl.move rfl rfl) ?_
          refine RW.yl rfl rfl rfl (Yl.loadAgg (cs := [.slice p2 b.length cb]) rfl rfl many24 (Blk.cells hK290)) ?_
          refine RW.fn rfl rfl rfl (Yc.func #[.agg #[.slice p2 b.length cb], .int .i64 6] rfl ok13 (args2 rfl rfl)) (c13 ((hu.mono (kept_from hB0 hB54 (Nat.le_refl _))).wide (Nat.zero_le _) (by omega))) ?_
          rintro _ w55 ⟨rfl, H42⟩
          have hB55 := Bl.step hB54 H42
          have hK292 := Blk.below hK289 H42
          have hK293 := Blk.below hK290 H42
          have hK294 := Blk.below hK291 H42
          have hz42 := H42.size
          rw [hg2]
          refine RW.yl rfl rfl rfl (Yl.not rfl rfl) ?_
          refine RW.yl rfl rfl rfl (Yl.pickF rfl rfl rfl) ?_
          refine RW.yl rfl rfl rfl (Yl.move rfl rfl) ?_
          refine RW.skip rfl rfl rfl ?_
          refine RW.skip rfl rfl rfl ?_
          refine RW.skip rfl rfl rfl ?_
          refine RW.yl rfl rfl rfl (Yl.pickT rfl rfl rfl) ?_
          refine RW.nil ?_
          change CW _ _ _ _ _ _
          refine CW.condT rfl ?_
          refine CW.seq ?_
          refine CW.region ?_
          refine RW.yl rfl rfl rfl (Yl.assign rfl rfl) ?_
          refine RW.nil ?_
          change CW _ _ _ _ _ _
          refine CW.ret ?_
          change FinQ _ _ _ _ _ _
          refine fin1 (.inr rfl) rfl rfl ?_
          exact ⟨_, rfl, bval (by first | rfl | exact decide_eq_true (by omega) | exact decide_eq_true (by assumption)), hB55⟩))
  ·
    first
    | (exfalso; omega)
    | (
      refine CW.region ?_
      refine RW.yl rfl rfl rfl (Yl.loadAgg (cs := [.slice p a.length ca]) rfl rfl many24 (Blk.cells hK4)) ?_
      refine RW.fn rfl rfl rfl (Yc.func #[.agg #[.slice p a.length ca], .int .i64 6] rfl ok13 (args2 rfl rfl)) (c13 ((hv.mono (kept_from hB0 hB4 (Nat.le_refl _))).wide (Nat.zero_le _) (by omega))) ?_
      rintro _ w56 ⟨rfl, H43⟩
      have hB56 := Bl.step hB4 H43
      have hK295 := Blk.below hK4 H43
      have hK296 := Blk.below hK5 H43
      have hK297 := Blk.below hK6 H43
      have hz43 := H43.size
      rw [hg1]
      refine RW.yl rfl rfl rfl (Yl.not rfl rfl) ?_
      refine RW.yl rfl rfl rfl (Yl.move rfl rfl) ?_
      refine RW.skip rfl rfl rfl ?_
      refine RW.skip rfl rfl rfl ?_
      refine RW.skip rfl rfl rfl ?_
      refine RW.yl rfl rfl rfl (Yl.pickT rfl rfl rfl) ?_
      refine RW.yl rfl rfl rfl (Yl.move rfl rfl) ?_
      refine RW.skip rfl rfl rfl ?_
      refine RW.skip rfl rfl rfl ?_
      refine RW.skip rfl rfl rfl ?_
      refine RW.yl rfl rfl rfl (Yl.pickT rfl rfl rfl) ?_
      refine RW.nil ?_
      change CW _ _ _ _ _ _
      refine CW.condT rfl ?_
      refine CW.seq ?_
      refine CW.region ?_
      refine RW.yl rfl rfl rfl (Yl.assign rfl rfl) ?_
      refine RW.nil ?_
      change CW _ _ _ _ _ _
      refine CW.ret ?_
      change FinQ _ _ _ _ _ _
      refine fin1 (.inr rfl) rfl rfl ?_
      exact ⟨_, rfl, bval (by first | rfl | exact decide_eq_true (by omega) | exact decide_eq_true (by assumption)), hB56⟩)

end Go.Proofs.Ytodeffidnipelaa
