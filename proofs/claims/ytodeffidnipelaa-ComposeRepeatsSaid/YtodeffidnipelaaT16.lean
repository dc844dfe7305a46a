/- ComposeRepeats. -/
import Derived.Test.YtodeffidnipelaaT15
namespace Go.Proofs.Ytodeffidnipelaa
open Go.RowKit Go.Ev

theorem ok25 : fnOk Try.prog 25 := ⟨_, Try.func25, by kernel_rfl, rfl⟩
theorem c7 {w : World} {v : Value} {c : List (List Int)} (hv : RRows 0 w.heap.size w v c) {n : Int} :
    Calls Try.prog 7 #[.agg #[v], .int .i64 n] w (Ret fun r w' => r = .bool true ∧ Below w.heap.size w w') := by
  obtain ⟨p, cc, rfl, hl⟩ := hv.form
  have hB0 : Below w.heap.size w w := Below.refl _ _
  refine Ev.calls (l := [.agg #[.slice p c.length cc], .int .i64 n]) Try.func7 rfl rfl rfl ?_
  change CW _ _ _ _ [(0, .agg #[.slice p c.length cc]), (1, .int .i64 n)] _
  refine CW.seq ?_
  refine CW.region ?_
  refine RW.newP (cs := #[.slice p c.length cc]) (T := 24) rfl rfl rfl (Yv.box (v := .agg #[.slice p c.length cc]) rfl rfl) ?_
  intro b1 w1 N1
  have lo_b1 : w.heap.size ≤ b1 := by have := hB0.size; have := N1.num; omega
  have hn_b1 := N1.num
  have hs_b1 := N1.size
  have hB1 := Bl.step hB0 N1.below
  refine RW.yl rfl rfl rfl (Yl.assign rfl rfl) ?_
  refine RW.nil ?_
  change CW _ _ _ _ _ _
  refine CW.seq ?_
  refine CW.seq ?_
  refine CW.region ?_
  refine RW.fn rfl rfl rfl (Yc.func #[] rfl ok12 (args0)) (c12) ?_
  rintro _ w2 ⟨rfl, H1⟩
  have hB2 := Bl.step hB1 H1
  have hK1 := Blk.below N1.blk H1
  have hz1 := H1.size
  refine RW.yl rfl rfl rfl (Yl.not rfl rfl) ?_
  refine RW.nil ?_
  change CW _ _ _ _ _ _
  refine CW.condF rfl ?_
  refine CW.skip ?_
  change CW _ _ _ _ _ _
  refine CW.seq ?_
  refine CW.seq ?_
  refine CW.region ?_
  refine RW.yl rfl rfl rfl (Yl.loadAgg (cs := [.slice p c.length cc]) rfl rfl many24 (Blk.cells hK1)) ?_
  refine RW.fn rfl rfl rfl (Yc.func #[.agg #[.slice p c.length cc], .int .i64 8] rfl ok13 (args2 rfl rfl)) (c13 ((hv.mono (kept_from hB0 hB2 (Nat.le_refl _))).wide (Nat.zero_le _) (by omega))) ?_
  rintro _ w3 ⟨rfl, H2⟩
  have hB3 := Bl.step hB2 H2
  have hK2 := Blk.below hK1 H2
  have hz2 := H2.size
  refine RW.yl rfl rfl rfl (Yl.not rfl rfl) ?_
  refine RW.nil ?_
  change CW _ _ _ _ _ _
  refine CW.cond rfl ?_ ?_
  ·
    intro hg1
    have hg2 : smallB c 8 = false := not_t hg1
    first
    | (exfalso; omega)
    | (
      refine CW.seq ?_
      refine CW.region ?_
      refine RW.yl rfl rfl rfl (Yl.assign rfl rfl) ?_
      refine RW.nil ?_
      change CW _ _ _ _ _ _
      refine CW.ret ?_
      change FinQ _ _ _ _ _ _
      refine fin1 (.inr rfl) rfl rfl ?_
      exact ⟨_, rfl, bval (by first | rfl | exact decide_eq_true (by omega) | exact decide_eq_true (by assumption)), hB3⟩)
  ·
    intro hg3
    have hg4 : smallB c 8 = true := not_f hg3
    first
    | (exfalso; omega)
    | (
      refine CW.skip ?_
      change CW _ _ _ _ _ _
      refine CW.seq ?_
      refine CW.region ?_
      refine RW.yl rfl rfl rfl (Yl.loadAgg (cs := [.slice p c.length cc]) rfl rfl many24 (Blk.cells hK2)) ?_
      refine RW.yl rfl rfl rfl (Yl.move rfl rfl) ?_
      refine RW.fn rfl rfl rfl (Yc.func #[.agg #[.slice p c.length cc], .int .i64 n] rfl ok25 (args2 rfl rfl)) (c25 ((hv.mono (kept_from hB0 hB3 (Nat.le_refl _))).wide (Nat.zero_le _) (by omega))) ?_
      rintro _ w4 ⟨s1, rfl, hR1, H3⟩
      obtain ⟨ps1, cs1, rfl, hl1⟩ := hR1.form
      have hB4 := Bl.step hB3 H3
      have hK3 := Blk.below hK2 H3
      have hz3 := H3.size
      refine RW.yl rfl rfl rfl (Yl.move rfl rfl) ?_
      refine RW.yl rfl rfl rfl (Yl.extract rfl rfl rfl) ?_
      refine RW.yl rfl rfl rfl (Yl.extract rfl rfl rfl) ?_
      refine RW.newP (cs := #[.slice none 0 0]) (T := 24) rfl rfl rfl (Yv.alloc (z := .agg #[.slice none 0 0]) rfl zero24) ?_
      intro b2 w5 N2
      have ne1 := New.ne N2 hK3
      have lo_b2 : w.heap.size ≤ b2 := by have := hB4.size; have := N2.num; omega
      have hn_b2 := N2.num
      have hs_b2 := N2.size
      have hB5 := Bl.step hB4 N2.below
      have hK4 := Blk.below hK3 N2.below
      have hR2 := hR1.mono (kept_below N2.below (by omega))
      refine RW.stoAll (cs' := #[.slice ps1 (((repR c n).1).length) cs1]) rfl rfl N2.blk (Yu.storeAll rfl rfl rfl sz24 N2.blk rfl (by simp [Value.oneCell'])) ?_
      intro w6 H4
      have hB6 := Bl.sto hB5 H4 lo_b2
      have hK5 := Blk.sto hK4 H4 ne1
      have hK6 := H4.blk
      have hR3 := hR2.mono (kept_sto H4 (by omega) (by omega))
      have hz4 := H4.size
      refine RW.yl rfl rfl rfl (Yl.assign rfl rfl) ?_
      refine RW.nil ?_
      change CW _ _ _ _ _ _
      refine CW.seq ?_
      refine CW.seq ?_
      refine CW.region ?_
      refine RW.yl rfl rfl rfl (Yl.loadAgg (cs := [.slice p c.length cc]) rfl rfl many24 (Blk.cells hK5)) ?_
      refine RW.fn rfl rfl rfl (Yc.func #[.agg #[.slice p c.length cc]] rfl ok15 (args1 rfl)) (c15 ((hv.mono (kept_from hB0 hB6 (Nat.le_refl _))).wide (Nat.zero_le _) (by omega))) ?_
      rintro _ w7 ⟨rfl, H5⟩
      have hB7 := Bl.step hB6 H5
      have hK7 := Blk.below hK5 H5
      have hK8 := Blk.below hK6 H5
      have hR4 := hR3.mono (kept_below H5 (by omega))
      have hz5 := H5.size
      refine RW.yl rfl rfl rfl (Yl.not rfl rfl) ?_
      refine RW.nil ?_
      change CW _ _ _ _ _ _
      refine CW.cond rfl ?_ ?_
      ·
        intro hg5
        have hg6 : validB c = false := not_t hg5
        have hk : repR c n = ([], 1) := repR_bad hg6
        have hk1 : (repR c n).1 = [] := by rw [hk]
        have hk2 : (repR c n).2 = 1 := by rw [hk]
        have hk3 : (repR c n).1.length = 0 := by rw [hk]; rfl
        first
        | (exfalso; omega)
        | (
          refine CW.seq ?_
          rcases Bool.eq_false_or_eq_true (decide (((repR c n).2) = 1)) with hg7 | hg7
          ·
            have hq4 := of_decide_eq_true hg7
            first
            | (exfalso; omega)
            | (
              refine CW.region ?_
              refine RW.yl rfl rfl rfl (Yl.move rfl rfl) ?_
              refine RW.yl rfl rfl rfl (Yl.eqb (Yl.eql rfl rfl rfl) hg7) ?_
              refine RW.yl rfl rfl rfl (Yl.move rfl rfl) ?_
              refine RW.yl rfl rfl rfl (Yl.loadAgg (cs := [.slice ps1 (((repR c n).1).length) cs1]) rfl rfl many24 (Blk.cells hK8)) ?_
              refine RW.fn rfl rfl rfl (Yc.func #[.agg #[.slice ps1 (((repR c n).1).length) cs1]] rfl ok18 (args1 rfl)) (c18 (hR4.wide (Nat.zero_le _) (by omega))) ?_
              rintro _ w8 ⟨rfl, H6⟩
              have hB8 := Bl.step hB7 H6
              have hK9 := Blk.below hK7 H6
              have hK10 := Blk.below hK8 H6
              have hR5 := hR4.mono (kept_below H6 (by omega))
              have hz6 := H6.size
              refine RW.yl rfl rfl rfl (Yl.pickT rfl rfl rfl) ?_
              refine RW.yl rfl rfl rfl (Yl.assign rfl rfl) ?_
              refine RW.nil ?_
              change CW _ _ _ _ _ _
              refine CW.ret ?_
              change FinQ _ _ _ _ _ _
              refine fin1 (.inr rfl) rfl rfl ?_
              exact ⟨_, rfl, bval (by first | rfl | exact decide_eq_true (by omega) | exact decide_eq_true (by assumption)), hB8⟩)
          ·
            have hq4 := of_decide_eq_false hg7
            first
            | (exfalso; omega)
            | (
              refine CW.region ?_
              refine RW.yl rfl rfl rfl (Yl.move rfl rfl) ?_
              refine RW.yl rfl rfl rfl (Yl.eqb (Yl.eql rfl rfl rfl) hg7) ?_
              refine RW.yl rfl rfl rfl (Yl.move rfl rfl) ?_
              refine RW.skip rfl rfl rfl ?_
              refine RW.skip rfl rfl rfl ?_
              refine RW.yl rfl rfl rfl (Yl.pickF rfl rfl rfl) ?_
              refine RW.yl rfl rfl rfl (Yl.assign rfl rfl) ?_
              refine RW.nil ?_
              change CW _ _ _ _ _ _
              refine CW.ret ?_
              change FinQ _ _ _ _ _ _
              refine fin1 (.inr rfl) rfl rfl ?_
              exact ⟨_, rfl, bval (by first | rfl | exact decide_eq_true (by omega) | exact decide_eq_true (by assumption)), hB7⟩))
      ·
        intro hg8
        have hg9 : validB c = true := not_f hg8
        have hv_c : validB c = true := hg9
        have ht_c := totG_bounds hv_c
        have hcc_c := validB_chan hv_c
        have hr1_c := hcc_c.r1
        have hr2_c := hcc_c.r2
        have hc1_c := hcc_c.c1
        have hc2_c := hcc_c.c2
        first
        | (exfalso; omega)
        | (
          refine CW.skip ?_
          change CW _ _ _ _ _ _
          refine CW.seq ?_
          refine CW.seq ?_
          rcases Bool.eq_false_or_eq_true (decide (n < 1)) with hg10 | hg10
          ·
            have hq6 := of_decide_eq_true hg10
            have hk : repR c n = ([], 3) := repR_rng hv_c (by omega)
            have hk1 : (repR c n).1 = [] := by rw [hk]
            have hk2 : (repR c n).2 = 3 := by rw [hk]
            have hk3 : (repR c n).1.length = 0 := by rw [hk]; rfl
            first
            | (exfalso; omega)
            | (
              refine CW.region ?_
              refine RW.yl rfl rfl rfl (Yl.move rfl rfl) ?_
              refine RW.yl rfl rfl rfl (Yl.eqb (Yl.lss rfl rfl rfl) hg10) ?_
              refine RW.yl rfl rfl rfl (Yl.move rfl rfl) ?_
              refine RW.skip rfl rfl rfl ?_
              refine RW.skip rfl rfl rfl ?_
              refine RW.yl rfl rfl rfl (Yl.pickT rfl rfl rfl) ?_
              refine RW.nil ?_
              change CW _ _ _ _ _ _
              refine CW.condT rfl ?_
              refine CW.seq ?_
              rcases Bool.eq_false_or_eq_true (decide (((repR c n).2) = 3)) with hg11 | hg11
              ·
                have hq7 := of_decide_eq_true hg11
                first
                | (exfalso; omega)
                | (
                  refine CW.region ?_
                  refine RW.yl rfl rfl rfl (Yl.move rfl rfl) ?_
                  refine RW.yl rfl rfl rfl (Yl.eqb (Yl.eql rfl rfl rfl) hg11) ?_
                  refine RW.yl rfl rfl rfl (Yl.move rfl rfl) ?_
                  refine RW.yl rfl rfl rfl (Yl.loadAgg (cs := [.slice ps1 (((repR c n).1).length) cs1]) rfl rfl many24 (Blk.cells hK8)) ?_
                  refine RW.fn rfl rfl rfl (Yc.func #[.agg #[.slice ps1 (((repR c n).1).length) cs1]] rfl ok18 (args1 rfl)) (c18 (hR4.wide (Nat.zero_le _) (by omega))) ?_
                  rintro _ w9 ⟨rfl, H7⟩
                  have hB9 := Bl.step hB7 H7
                  have hK11 := Blk.below hK7 H7
                  have hK12 := Blk.below hK8 H7
                  have hR6 := hR4.mono (kept_below H7 (by omega))
                  have hz7 := H7.size
                  refine RW.yl rfl rfl rfl (Yl.pickT rfl rfl rfl) ?_
                  refine RW.yl rfl rfl rfl (Yl.assign rfl rfl) ?_
                  refine RW.nil ?_
                  change CW _ _ _ _ _ _
                  refine CW.ret ?_
                  change FinQ _ _ _ _ _ _
                  refine fin1 (.inr rfl) rfl rfl ?_
                  exact ⟨_, rfl, bval (by first | rfl | exact decide_eq_true (by omega) | exact decide_eq_true (by assumption)), hB9⟩)
              ·
                have hq7 := of_decide_eq_false hg11
                first
                | (exfalso; omega)
                | (
                  refine CW.region ?_
                  refine RW.yl rfl rfl rfl (Yl.move rfl rfl) ?_
                  refine RW.yl rfl rfl rfl (Yl.eqb (Yl.eql rfl rfl rfl) hg11) ?_
                  refine RW.yl rfl rfl rfl (Yl.move rfl rfl) ?_
                  refine RW.skip rfl rfl rfl ?_
                  refine RW.skip rfl rfl rfl ?_
                  refine RW.yl rfl rfl rfl (Yl.pickF rfl rfl rfl) ?_
                  refine RW.yl rfl rfl rfl (Yl.assign rfl rfl) ?_
                  refine RW.nil ?_
                  change CW _ _ _ _ _ _
                  refine CW.ret ?_
                  change FinQ _ _ _ _ _ _
                  refine fin1 (.inr rfl) rfl rfl ?_
                  exact ⟨_, rfl, bval (by first | rfl | exact decide_eq_true (by omega) | exact decide_eq_true (by assumption)), hB7⟩))
          ·
            have hq6 := of_decide_eq_false hg10
            first
            | (exfalso; omega)
            | (
              refine CW.region ?_
              refine RW.yl rfl rfl rfl (Yl.move rfl rfl) ?_
              refine RW.yl rfl rfl rfl (Yl.eqb (Yl.lss rfl rfl rfl) hg10) ?_
              refine RW.yl rfl rfl rfl (Yl.move rfl rfl) ?_
              refine RW.yl rfl rfl rfl (Yl.move rfl rfl) ?_
              refine RW.yl rfl rfl rfl (Yl.gtr rfl rfl rfl) ?_
              refine RW.yl rfl rfl rfl (Yl.pickF rfl rfl rfl) ?_
              refine RW.nil ?_
              change CW _ _ _ _ _ _
              refine CW.cond rfl ?_ ?_
              ·
                intro hg12
                have hq9 := of_decide_eq_true hg12
                have hk : repR c n = ([], 3) := repR_rng hv_c (by omega)
                have hk1 : (repR c n).1 = [] := by rw [hk]
                have hk2 : (repR c n).2 = 3 := by rw [hk]
                have hk3 : (repR c n).1.length = 0 := by rw [hk]; rfl
                first
                | (exfalso; omega)
                | (
                  refine CW.seq ?_
                  rcases Bool.eq_false_or_eq_true (decide (((repR c n).2) = 3)) with hg13 | hg13
                  ·
                    have hq10 := of_decide_eq_true hg13
                    first
                    | (exfalso; omega)
                    | (
                      refine CW.region ?_
                      refine RW.yl rfl rfl rfl (Yl.move rfl rfl) ?_
                      refine RW.yl rfl rfl rfl (Yl.eqb (Yl.eql rfl rfl rfl) hg13) ?_
                      refine RW.yl rfl rfl rfl (Yl.move rfl rfl) ?_
                      refine RW.yl rfl rfl rfl (Yl.loadAgg (cs := [.slice ps1 (((repR c n).1).length) cs1]) rfl rfl many24 (Blk.cells hK8)) ?_
                      refine RW.fn rfl rfl rfl (Yc.func #[.agg #[.slice ps1 (((repR c n).1).length) cs1]] rfl ok18 (args1 rfl)) (c18 (hR4.wide (Nat.zero_le _) (by omega))) ?_
                      rintro _ w10 ⟨rfl, H8⟩
                      have hB10 := Bl.step hB7 H8
                      have hK13 := Blk.below hK7 H8
                      have hK14 := Blk.below hK8 H8
                      have hR7 := hR4.mono (kept_below H8 (by omega))
                      have hz8 := H8.size
                      refine RW.yl rfl rfl rfl (Yl.pickT rfl rfl rfl) ?_
                      refine RW.yl rfl rfl rfl (Yl.assign rfl rfl) ?_
                      refine RW.nil ?_
                      change CW _ _ _ _ _ _
                      refine CW.ret ?_
                      change FinQ _ _ _ _ _ _
                      refine fin1 (.inr rfl) rfl rfl ?_
                      exact ⟨_, rfl, bval (by first | rfl | exact decide_eq_true (by omega) | exact decide_eq_true (by assumption)), hB10⟩)
                  ·
                    have hq10 := of_decide_eq_false hg13
                    first
                    | (exfalso; omega)
                    | (
                      refine CW.region ?_
                      refine RW.yl rfl rfl rfl (Yl.move rfl rfl) ?_
                      refine RW.yl rfl rfl rfl (Yl.eqb (Yl.eql rfl rfl rfl) hg13) ?_
                      refine RW.yl rfl rfl rfl (Yl.move rfl rfl) ?_
                      refine RW.skip rfl rfl rfl ?_
                      refine RW.skip rfl rfl rfl ?_
                      refine RW.yl rfl rfl rfl (Yl.pickF rfl rfl rfl) ?_
                      refine RW.yl rfl rfl rfl (Yl.assign rfl rfl) ?_
                      refine RW.nil ?_
                      change CW _ _ _ _ _ _
                      refine CW.ret ?_
                      change FinQ _ _ _ _ _ _
                      refine fin1 (.inr rfl) rfl rfl ?_
                      exact ⟨_, rfl, bval (by first | rfl | exact decide_eq_true (by omega) | exact decide_eq_true (by assumption)), hB7⟩))
              ·
                intro hg14
                have hq12 := of_decide_eq_false hg14
                first
                | (exfalso; omega)
                | (
                  refine CW.skip ?_
                  change CW _ _ _ _ _ _
                  refine CW.seq ?_
                  refine CW.region ?_
                  refine RW.yl rfl rfl rfl (Yl.loadAgg (cs := [.slice p c.length cc]) rfl rfl many24 (Blk.cells hK7)) ?_
                  refine RW.newP (cs := #[.slice none 0 0]) (T := 24) rfl rfl rfl (Yv.alloc (z := .agg #[.slice none 0 0]) rfl zero24) ?_
                  intro b3 w11 N3
                  have ne2 := New.ne N3 hK7
                  have ne3 := New.ne N3 hK8
                  have lo_b3 : w.heap.size ≤ b3 := by have := hB7.size; have := N3.num; omega
                  have hn_b3 := N3.num
                  have hs_b3 := N3.size
                  have hB11 := Bl.step hB7 N3.below
                  have hK15 := Blk.below hK7 N3.below
                  have hK16 := Blk.below hK8 N3.below
                  have hR8 := hR4.mono (kept_below N3.below (by omega))
                  refine RW.stoAll (cs' := #[.slice p c.length cc]) rfl rfl N3.blk (Yu.storeAll rfl rfl rfl sz24 N3.blk rfl (by simp [Value.oneCell'])) ?_
                  intro w12 H9
                  have hB12 := Bl.sto hB11 H9 lo_b3
                  have hK17 := Blk.sto hK15 H9 ne2
                  have hK18 := Blk.sto hK16 H9 ne3
                  have hK19 := H9.blk
                  have hR9 := hR8.mono (kept_sto H9 (by omega) (by omega))
                  have hz9 := H9.size
                  refine RW.nil ?_
                  change CW _ _ _ _ _ _
                  refine CW.seq ?_
                  refine CW.seq ?_
                  refine CW.region ?_
                  refine RW.yl rfl rfl rfl (Yl.move rfl rfl) ?_
                  refine RW.yl rfl rfl rfl (Yl.sub (m := n) (n := 1) rfl rfl rfl (by omega)) ?_
                  refine RW.yl rfl rfl rfl (Yl.move rfl rfl) ?_
                  refine RW.nil ?_
                  change CW _ _ _ _ _ _
                  refine CW.block ?_
                  refine CW.loop4 (fun (k : Nat) (m : List (List Int)) (ps : Option Addr) (cs : Nat) => [(2, .pointer (some ⟨b1, 0, none⟩)), (5, .pointer (some ⟨b2, 0, none⟩)), (6, .int .i64 ((repR c n).2)), (7, .pointer (some ⟨b3, 0, none⟩)), (42, .int .i64 (n - 1)), (43, .int .i64 ((k : Nat) : Int))]) (fun k m ps cs gm W => (gm = (n - 1).toNat - k) ∧ ((k : Int) ≤ n - 1) ∧ (repGo c (n - 1).toNat c = repGo c ((n - 1).toNat - k) m) ∧ (validB m = true) ∧ (m.length = c.length) ∧ (Below w.heap.size w W) ∧ (Blk W b1 #[.slice p c.length cc] 24) ∧ (Blk W b2 #[.slice ps1 (((repR c n).1).length) cs1] 24) ∧ (Blk W b3 #[.slice ps m.length cs] 24) ∧ (RRows w3.heap.size w4.heap.size W (.slice ps1 (((repR c n).1).length) cs1) ((repR c n).1)) ∧ (RRows 0 W.heap.size W (.slice ps m.length cs) m) ∧ (w12.heap.size ≤ W.heap.size)) 0 c p cc ((n - 1).toNat - 0) ⟨rfl, (by first | assumption | omega | rfl | (first | exact rep_nextT (by assumption) (by omega) (by assumption) | exact parT_len (by assumption))), (by first | assumption | omega | rfl | (first | exact rep_nextT (by assumption) (by omega) (by assumption) | exact parT_len (by assumption))), (by first | assumption | omega | rfl | (first | exact rep_nextT (by assumption) (by omega) (by assumption) | exact parT_len (by assumption))), (by first | assumption | omega | rfl | (first | exact rep_nextT (by assumption) (by omega) (by assumption) | exact parT_len (by assumption))), hB12, hK17, hK18, hK19, hR9, ((hv.mono (kept_from hB0 hB12 (Nat.le_refl _))).wide (by omega) (by omega)), (by omega)⟩ (Sub.cons rfl (Sub.cons rfl (Sub.cons rfl (Sub.cons rfl (Sub.cons rfl (Sub.cons rfl (Sub.nil))))))) ?_
                  intro k m ps cs gm1 w13 hinv
                  obtain ⟨hm1, hi1, hi2, hi3, hi4, hB13, hK20, hK21, hK22, hR10, hR11, hz10⟩ := hinv
                  change CW _ _ _ _ [(2, .pointer (some ⟨b1, 0, none⟩)), (5, .pointer (some ⟨b2, 0, none⟩)), (6, .int .i64 ((repR c n).2)), (7, .pointer (some ⟨b3, 0, none⟩)), (42, .int .i64 (n - 1)), (43, .int .i64 ((k : Nat) : Int))] _
                  have hv_m : validB m = true := hi3
                  have hlen : m.length = c.length := hi4
                  have ht_m := totG_bounds hv_m
                  have hcc_m := validB_chan hv_m
                  have hr1_m := hcc_m.r1
                  have hr2_m := hcc_m.r2
                  have hc1_m := hcc_m.c1
                  have hc2_m := hcc_m.c2
                  have hmm := mul_small ⟨ht_m.1, ht_m.2.1⟩ ⟨ht_c.1, ht_c.2.1⟩
                  have hcc2 := Nat.mul_le_mul hc2_m hc2_c
                  refine CW.seq ?_
                  refine CW.region ?_
                  refine RW.yl rfl rfl rfl (Yl.lss rfl rfl rfl) ?_
                  refine RW.nil ?_
                  change CW _ _ _ _ _ _
                  refine CW.seq ?_
                  refine CW.cond rfl ?_ ?_
                  ·
                    intro hg15
                    have hq14 := of_decide_eq_true hg15
                    first
                    | (exfalso; omega)
                    | (
                      refine CW.skip ?_
                      change CW _ _ _ _ _ _
                      refine CW.seq ?_
                      refine CW.block ?_
                      refine CW.seq ?_
                      refine CW.seq ?_
                      refine CW.draw 18 rfl (Kp []) (by kernel_rfl) ?_
                      intro w14 H10
                      have hB14 := Bl.step hB13 H10
                      have hK23 := Blk.below hK20 H10
                      have hK24 := Blk.below hK21 H10
                      have hK25 := Blk.below hK22 H10
                      have hR12 := hR10.mono (kept_below H10 (by omega))
                      have hR13 := hR11.mono (kept_below H10 (by omega))
                      have hz11 := H10.size
                      have hS1 := Kp.refl [] w14
                      refine RH.take 0 rfl (by kernel_rfl) rfl rfl rfl hS1 (fun W1 hW1 => Yl.fieldAddr rfl rfl Try.underlying24 rfl sz22) ?_
                      refine RH.take 1 rfl (by kernel_rfl) rfl rfl rfl hS1 (fun W2 hW2 => Yl.load rfl rfl one22 (Blk.cell (Kp.blk hW2 hK25 (by simp)) rfl)) ?_
                      obtain ⟨bx1, ox1, px1, cx1, hp1, hl2, hh1, hc1, hx1, hn1⟩ := hR13.at 0 (by omega)
                      refine RH.take 2 rfl (by kernel_rfl) rfl rfl rfl hS1 (fun W3 hW3 => Yl.indexAddr1 (k := 0) rfl rfl rfl Try.underlying22 sz31 hp1 rfl (by omega)) ?_
                      refine RH.take 3 rfl (by kernel_rfl) rfl rfl rfl hS1 (fun W4 hW4 => Yl.load rfl rfl one31 (Kp.cell hW4 hc1 (by simp))) ?_
                      refine RH.take 4 rfl (by kernel_rfl) rfl rfl rfl hS1 (fun W5 hW5 => Yl.len rfl rfl Try.underlying31) ?_
                      refine RH.take 5 rfl (by kernel_rfl) rfl rfl rfl hS1 (fun W6 hW6 => Yl.fieldAddr rfl rfl Try.underlying24 rfl sz22) ?_
                      refine RH.take 6 rfl (by kernel_rfl) rfl rfl rfl hS1 (fun W7 hW7 => Yl.load rfl rfl one22 (Blk.cell (Kp.blk hW7 hK23 (by simp)) rfl)) ?_
                      obtain ⟨bx2, ox2, px2, cx2, hp2, hl3, hh2, hc2, hx2, hn2⟩ := (hv.mono (kept_from hB0 hB14 (Nat.le_refl _))).at 0 (by omega)
                      refine RH.take 7 rfl (by kernel_rfl) rfl rfl rfl hS1 (fun W8 hW8 => Yl.indexAddr1 (k := 0) rfl rfl rfl Try.underlying22 sz31 hp2 rfl (by omega)) ?_
                      refine RH.take 8 rfl (by kernel_rfl) rfl rfl rfl hS1 (fun W9 hW9 => Yl.load rfl rfl one31 (Kp.cell hW9 hc2 (by simp))) ?_
                      refine RH.take 9 rfl (by kernel_rfl) rfl rfl rfl hS1 (fun W10 hW10 => Yl.len rfl rfl Try.underlying31) ?_
                      refine RH.take 10 rfl (by kernel_rfl) rfl rfl rfl hS1 (fun W11 hW11 => Yl.mulN (a := (m[0]!).length) (b := (c[0]!).length) rfl rfl rfl (by omega)) ?_
                      refine RH.take 11 rfl (by kernel_rfl) rfl rfl rfl hS1 (fun W12 hW12 => Yl.loadAgg (cs := [.slice ps m.length cs]) rfl rfl many24 (Blk.cells (Kp.blk hW12 hK25 (by simp)))) ?_
                      refine RH.take 13 rfl (by kernel_rfl) rfl rfl rfl hS1 (fun W14 hW14 => Yl.loadAgg (cs := [.slice p c.length cc]) rfl rfl many24 (Blk.cells (Kp.blk hW14 hK23 (by simp)))) ?_
                      refine RH.one 12 (by kernel_rfl) ?_
                      refine RO.fn rfl rfl rfl rfl (Yc.func #[.agg #[.slice ps m.length cs]] rfl ok17 (args1 rfl)) (c17 (hR13.wide (Nat.zero_le _) (by omega)) (validB_chanT hv_m)) ?_
                      rintro _ w15 ⟨rfl, H11⟩
                      have hS2 := Kp.step hS1 H11
                      have hB15 := Bl.step hB14 H11
                      have hK26 := Blk.below hK23 H11
                      have hK27 := Blk.below hK24 H11
                      have hK28 := Blk.below hK25 H11
                      have hR14 := hR12.mono (kept_below H11 (by omega))
                      have hR15 := hR13.mono (kept_below H11 (by omega))
                      have hz12 := H11.size
                      refine ⟨hS2, ?_⟩
                      refine RH.one 14 (by kernel_rfl) ?_
                      refine RO.fn rfl rfl rfl rfl (Yc.func #[.agg #[.slice p c.length cc]] rfl ok17 (args1 rfl)) (c17 ((hv.mono (kept_from hB0 hB15 (Nat.le_refl _))).wide (Nat.zero_le _) (by omega)) (validB_chanT hv_c)) ?_
                      rintro _ w16 ⟨rfl, H12⟩
                      have hS3 := Kp.step hS2 H12
                      have hB16 := Bl.step hB15 H12
                      have hK29 := Blk.below hK26 H12
                      have hK30 := Blk.below hK27 H12
                      have hK31 := Blk.below hK28 H12
                      have hR16 := hR14.mono (kept_below H12 (by omega))
                      have hR17 := hR15.mono (kept_below H12 (by omega))
                      have hz13 := H12.size
                      refine ⟨hS3, ?_⟩
                      refine RH.take 15 rfl (by kernel_rfl) rfl rfl rfl hS3 (fun W17 hW17 => Yl.mul (m := totG m) (n := totG c) rfl rfl rfl (by omega)) ?_
                      refine RH.one 16 (by kernel_rfl) ?_
                      refine RO.fn rfl rfl rfl rfl (Yc.func #[.int .i64 ((((m[0]!).length) * ((c[0]!).length) : Nat) : Int), .int .i64 ((totG m) * (totG c))] rfl ok16 (args2 rfl rfl)) (c16) ?_
                      rintro _ w17 ⟨rfl, H13⟩
                      have hS4 := Kp.step hS3 H13
                      have hB17 := Bl.step hB16 H13
                      have hK32 := Blk.below hK29 H13
                      have hK33 := Blk.below hK30 H13
                      have hK34 := Blk.below hK31 H13
                      have hR18 := hR16.mono (kept_below H13 (by omega))
                      have hR19 := hR17.mono (kept_below H13 (by omega))
                      have hz14 := H13.size
                      refine ⟨hS4, ?_⟩
                      refine RH.take 17 rfl (by kernel_rfl) rfl rfl rfl hS4 (fun W19 hW19 => Yl.neq rfl rfl rfl) ?_
                      refine RH.done (by kernel_rfl) ?_
                      change CW _ _ _ _ _ _
                      refine CW.cond rfl ?_ ?_
                      ·
                        intro hg16
                        have hg17 : decide ((limG ((((m[0]!).length) * ((c[0]!).length) : Nat) : Int) ((totG m) * (totG c))) = 0) = false := not_t hg16
                        have hq16 := of_decide_eq_false hg17
                        have hk : repR c n = ([], 4) := repR_four hv_c (by omega) (by omega) (by assumption) (by omega) hv_m hlen (of_decide_eq_false hg17)
                        have hk1 : (repR c n).1 = [] := by rw [hk]
                        have hk2 : (repR c n).2 = 4 := by rw [hk]
                        have hk3 : (repR c n).1.length = 0 := by rw [hk]; rfl
                        first
                        | (exfalso; omega)
                        | (
                          refine CW.seq ?_
                          rcases Bool.eq_false_or_eq_true (decide (((repR c n).2) = 4)) with hg18 | hg18
                          ·
                            have hq17 := of_decide_eq_true hg18
                            first
                            | (exfalso; omega)
                            | (
                              refine CW.region ?_
                              refine RW.yl rfl rfl rfl (Yl.move rfl rfl) ?_
                              refine RW.yl rfl rfl rfl (Yl.eqb (Yl.eql rfl rfl rfl) hg18) ?_
                              refine RW.yl rfl rfl rfl (Yl.move rfl rfl) ?_
                              refine RW.yl rfl rfl rfl (Yl.loadAgg (cs := [.slice ps1 (((repR c n).1).length) cs1]) rfl rfl many24 (Blk.cells hK33)) ?_
                              refine RW.fn rfl rfl rfl (Yc.func #[.agg #[.slice ps1 (((repR c n).1).length) cs1]] rfl ok18 (args1 rfl)) (c18 (hR18.wide (Nat.zero_le _) (by omega))) ?_
                              rintro _ w18 ⟨rfl, H14⟩
                              have hB18 := Bl.step hB17 H14
                              have hK35 := Blk.below hK32 H14
                              have hK36 := Blk.below hK33 H14
                              have hK37 := Blk.below hK34 H14
                              have hR20 := hR18.mono (kept_below H14 (by omega))
                              have hR21 := hR19.mono (kept_below H14 (by omega))
                              have hz15 := H14.size
                              refine RW.yl rfl rfl rfl (Yl.pickT rfl rfl rfl) ?_
                              refine RW.yl rfl rfl rfl (Yl.assign rfl rfl) ?_
                              refine RW.nil ?_
                              change CW _ _ _ _ _ _
                              refine CW.ret ?_
                              change FinQ _ _ _ _ _ _
                              refine fin1 (.inr rfl) rfl rfl ?_
                              exact ⟨_, rfl, bval (by first | rfl | exact decide_eq_true (by omega) | exact decide_eq_true (by assumption)), hB18⟩)
                          ·
                            have hq17 := of_decide_eq_false hg18
                            first
                            | (exfalso; omega)
                            | (
                              refine CW.region ?_
                              refine RW.yl rfl rfl rfl (Yl.move rfl rfl) ?_
                              refine RW.yl rfl rfl rfl (Yl.eqb (Yl.eql rfl rfl rfl) hg18) ?_
                              refine RW.yl rfl rfl rfl (Yl.move rfl rfl) ?_
                              refine RW.skip rfl rfl rfl ?_
                              refine RW.skip rfl rfl rfl ?_
                              refine RW.yl rfl rfl rfl (Yl.pickF rfl rfl rfl) ?_
                              refine RW.yl rfl rfl rfl (Yl.assign rfl rfl) ?_
                              refine RW.nil ?_
                              change CW _ _ _ _ _ _
                              refine CW.ret ?_
                              change FinQ _ _ _ _ _ _
                              refine fin1 (.inr rfl) rfl rfl ?_
                              exact ⟨_, rfl, bval (by first | rfl | exact decide_eq_true (by omega) | exact decide_eq_true (by assumption)), hB17⟩))
                      ·
                        intro hg19
                        have hg20 : decide ((limG ((((m[0]!).length) * ((c[0]!).length) : Nat) : Int) ((totG m) * (totG c))) = 0) = true := not_f hg19
                        have hq19 := of_decide_eq_true hg20
                        have hko : parR m c = (parT m c, 0) := parR_ok hv_m hv_c hlen (of_decide_eq_true hg20)
                        have hv_pm : validB (parT m c) = true := par_valid hv_m hv_c hlen (of_decide_eq_true hg20)
                        first
                        | (exfalso; omega)
                        | (
                          refine CW.skip ?_
                          change CW _ _ _ _ _ _
                          refine CW.region ?_
                          refine RW.yl rfl rfl rfl (Yl.loadAgg (cs := [.slice ps m.length cs]) rfl rfl many24 (Blk.cells hK34)) ?_
                          refine RW.yl rfl rfl rfl (Yl.loadAgg (cs := [.slice p c.length cc]) rfl rfl many24 (Blk.cells hK32)) ?_
                          refine RW.fn rfl rfl rfl (Yc.func #[.agg #[.slice ps m.length cs], .agg #[.slice p c.length cc]] rfl ok23 (args2 rfl rfl)) (c23 (hR19.wide (Nat.zero_le _) (by omega)) ((hv.mono (kept_from hB0 hB17 (Nat.le_refl _))).wide (Nat.zero_le _) (by omega)) (validB_chanT hv_m) (validB_chanT hv_c) (by omega)) ?_
                          rintro _ w19 ⟨s2, rfl, hR22, H15⟩
                          obtain ⟨ps2, cs2, rfl, hl4⟩ := hR22.form
                          have hB19 := Bl.step hB17 H15
                          have hK38 := Blk.below hK32 H15
                          have hK39 := Blk.below hK33 H15
                          have hK40 := Blk.below hK34 H15
                          have hR23 := hR18.mono (kept_below H15 (by omega))
                          have hR24 := hR19.mono (kept_below H15 (by omega))
                          have hz16 := H15.size
                          refine RW.stoAll (cs' := #[.slice ps2 ((parT m c).length) cs2]) rfl rfl hK40 (Yu.storeAll rfl rfl rfl sz24 hK40 rfl (by simp [Value.oneCell'])) ?_
                          intro w20 H16
                          have hB20 := Bl.sto hB19 H16 lo_b3
                          have hK41 := Blk.sto hK38 H16 ne2
                          have hK42 := Blk.sto hK39 H16 ne3
                          have hK43 := H16.blk
                          have hR25 := hR23.mono (kept_sto H16 (by omega) (by omega))
                          have hR26 := hR22.mono (kept_sto H16 (by omega) (by omega))
                          have hz17 := H16.size
                          refine RW.nil ?_
                          change CW _ _ _ _ _ _
                          refine CW.region ?_
                          refine RW.yl rfl rfl rfl (Yl.addN (a := k) (b := 1) rfl rfl rfl (by omega)) ?_
                          refine RW.yl rfl rfl rfl (Yl.move rfl rfl) ?_
                          refine RW.nil ?_
                          refine ⟨(k + 1, parT m c, ps2, cs2), (n - 1).toNat - (k + 1), by omega, ⟨rfl, (by first | assumption | omega | rfl | (first | exact rep_nextT (by assumption) (by omega) (by assumption) | exact parT_len (by assumption))), (by first | assumption | omega | rfl | (first | exact rep_nextT (by assumption) (by omega) (by assumption) | exact parT_len (by assumption))), (by first | assumption | omega | rfl | (first | exact rep_nextT (by assumption) (by omega) (by assumption) | exact parT_len (by assumption))), (by first | assumption | omega | rfl | (first | exact rep_nextT (by assumption) (by omega) (by assumption) | exact parT_len (by assumption))), hB20, hK41, hK42, hK43, hR25, (hR26.wide (by omega) (by omega)), (by omega)⟩, Sub.cons rfl (Sub.cons rfl (Sub.cons rfl (Sub.cons rfl (Sub.cons rfl (Sub.cons rfl (Sub.nil))))))⟩))
                  ·
                    intro hg21
                    have hq21 := of_decide_eq_false hg21
                    have hk : repR c n = (m, 0) := repR_end hv_c (by omega) (by omega) (by assumption) (by omega)
                    have hk1 : (repR c n).1 = m := by rw [hk]
                    have hk2 : (repR c n).2 = 0 := by rw [hk]
                    first
                    | (exfalso; omega)
                    | (
                      refine CW.exit ?_
                      change CW _ _ _ _ _ _
                      refine CW.seq ?_
                      rcases Bool.eq_false_or_eq_true (decide (((repR c n).2) = 0)) with hg22 | hg22
                      ·
                        have hq22 := of_decide_eq_true hg22
                        first
                        | (exfalso; omega)
                        | (
                          refine CW.region ?_
                          refine RW.yl rfl rfl rfl (Yl.move rfl rfl) ?_
                          refine RW.yl rfl rfl rfl (Yl.eqb (Yl.eql rfl rfl rfl) hg22) ?_
                          refine RW.yl rfl rfl rfl (Yl.move rfl rfl) ?_
                          refine RW.yl rfl rfl rfl (Yl.loadAgg (cs := [.slice ps1 (((repR c n).1).length) cs1]) rfl rfl many24 (Blk.cells hK21)) ?_
                          refine RW.yl rfl rfl rfl (Yl.loadAgg (cs := [.slice ps m.length cs]) rfl rfl many24 (Blk.cells hK22)) ?_
                          refine RW.fn rfl rfl rfl (Yc.func #[.agg #[.slice ps1 (((repR c n).1).length) cs1], .agg #[.slice ps m.length cs]] rfl ok19 (args2 rfl rfl)) (c19 (hR10.wide (Nat.zero_le _) (by omega)) (hR11.wide (Nat.zero_le _) (by omega))) ?_
                          rintro _ w21 ⟨rfl, H17⟩
                          have hB21 := Bl.step hB13 H17
                          have hK44 := Blk.below hK20 H17
                          have hK45 := Blk.below hK21 H17
                          have hK46 := Blk.below hK22 H17
                          have hR27 := hR10.mono (kept_below H17 (by omega))
                          have hR28 := hR11.mono (kept_below H17 (by omega))
                          have hz18 := H17.size
                          refine RW.yl rfl rfl rfl (Yl.pickT rfl rfl rfl) ?_
                          refine RW.yl rfl rfl rfl (Yl.assign rfl rfl) ?_
                          refine RW.nil ?_
                          change CW _ _ _ _ _ _
                          refine CW.ret ?_
                          change FinQ _ _ _ _ _ _
                          refine fin1 (.inr rfl) rfl rfl ?_
                          exact ⟨_, rfl, bval (by first | rfl | exact decide_eq_true (by omega) | exact decide_eq_true (by assumption)), hB21⟩)
                      ·
                        have hq22 := of_decide_eq_false hg22
                        first
                        | (exfalso; omega)
                        | (
                          refine CW.region ?_
                          refine RW.yl rfl rfl rfl (Yl.move rfl rfl) ?_
                          refine RW.yl rfl rfl rfl (Yl.eqb (Yl.eql rfl rfl rfl) hg22) ?_
                          refine RW.yl rfl rfl rfl (Yl.move rfl rfl) ?_
                          refine RW.skip rfl rfl rfl ?_
                          refine RW.skip rfl rfl rfl ?_
                          refine RW.skip rfl rfl rfl ?_
                          refine RW.yl rfl rfl rfl (Yl.pickF rfl rfl rfl) ?_
                          refine RW.yl rfl rfl rfl (Yl.assign rfl rfl) ?_
                          refine RW.nil ?_
                          change CW _ _ _ _ _ _
                          refine CW.ret ?_
                          change FinQ _ _ _ _ _ _
                          refine fin1 (.inr rfl) rfl rfl ?_
                          exact ⟨_, rfl, bval (by first | rfl | exact decide_eq_true (by omega) | exact decide_eq_true (by assumption)), hB13⟩))))))

end Go.Proofs.Ytodeffidnipelaa
