/- ComposeRepetition. -/
import Derived.Test.YtodeffidnipelaaT15
import Derived.Test.YtodeffidnipelaaM6
import Derived.Test.YtodeffidnipelaaEvSl
namespace Go.Proofs.Ytodeffidnipelaa
open Go.RowKit Go.Ev

section
variable {c : List (List Int)} {k : Nat} {D : Int} {B : Bool}
theorem dcnt_yes (h : D = dcnt c k) (hf : (c.take k).any (fun l => decide (l = c[k]!)) = false) : D + 1 = dcnt c (k + 1) := by
  have : firstB c k = true := by unfold firstB; rw [hf]; rfl
  have e : dcnt c (k + 1) = dcnt c k + (if firstB c k = true then 1 else 0) := rfl
  rw [e, if_pos this, h]
theorem dcnt_no (h : D = dcnt c k) (hf : (c.take k).any (fun l => decide (l = c[k]!)) = true) : D = dcnt c (k + 1) := by
  have : ¬ firstB c k = true := by unfold firstB; rw [hf]; exact Bool.false_ne_true
  have e : dcnt c (k + 1) = dcnt c k + (if firstB c k = true then 1 else 0) := rfl
  rw [e, if_neg this, h]; omega
theorem cert_succ (c : List (List Int)) (k : Nat) : certB c (k + 1) = (certB c k && decide (maxL c[k]! (c[k]!).length = totG c)) := by
  unfold certB
  rw [List.range_succ, List.all_append]
  simp
theorem cert_yes (h : B = certB c k) (hm : maxL c[k]! (c[k]!).length = totG c) : B = certB c (k + 1) := by
  rw [cert_succ, ← h, decide_eq_true hm, Bool.and_true]
theorem cert_no (hm : ¬ maxL c[k]! (c[k]!).length = totG c) : false = certB c (k + 1) := by
  rw [cert_succ, decide_eq_false hm, Bool.and_false]
end
theorem ok24 : fnOk Try.prog 24 := ⟨_, Try.func24, by kernel_rfl, rfl⟩
theorem ok25 : fnOk Try.prog 25 := ⟨_, Try.func25, by kernel_rfl, rfl⟩
theorem ok36 : fnOk Try.prog 36 := ⟨_, Try.func36, by kernel_rfl, rfl⟩
theorem ok38 : fnOk Try.prog 38 := ⟨_, Try.func38, by kernel_rfl, rfl⟩
theorem zero31 : ∃ i, Try.prog.info? 31 = some i ∧ i.zero = some (.slice none 0 0) := let ⟨i, h1, h2, _, _⟩ := info_of info31; ⟨i, h1, h2⟩
theorem c56_36 {w : World} {v : Value} {m : List (List Int)} (hv : RRows 0 w.heap.size w v m) {q0 : Value} {g : List Int → Bool} (HC : ∀ {W : World} {x : Value} {l : List Int}, Below w.heap.size w W → RInts 0 W.heap.size W x l → Calls Try.prog 36 #[x, q0] W (Ret fun r w' => r = .bool (g l) ∧ Below W.heap.size W w')) :
    Calls Try.prog 56 #[v, .func (.func 36) #[] #[q0]] w (Ret fun r w' => r = .int .i64 (fidx g 0 m) ∧ Below w.heap.size w w') := by
  obtain ⟨p, c, rfl, hl⟩ := hv.form
  have hB0 : Below w.heap.size w w := Below.refl _ _
  refine Ev.calls (l := [.slice p m.length c, .func (.func 36) #[] #[q0]]) Try.func56 rfl rfl rfl ?_
  change CW _ _ _ _ [(0, .slice p m.length c), (1, .func (.func 36) #[] #[q0])] _
  refine CW.seq ?_
  refine CW.region ?_
  refine RW.yl rfl rfl rfl (Yl.assign rfl rfl) ?_
  refine RW.nil ?_
  change CW _ _ _ _ _ _
  refine CW.seq ?_
  refine CW.seq ?_
  refine CW.region ?_
  refine RW.yl rfl rfl rfl (Yl.move rfl rfl) ?_
  refine RW.yl rfl rfl rfl (Yl.len rfl rfl Try.underlying22) ?_
  refine RW.yl rfl rfl rfl (Yl.move rfl rfl) ?_
  refine RW.nil ?_
  change CW _ _ _ _ _ _
  refine CW.block ?_
  refine CW.loop1 (fun (k : Nat) => [(0, .slice p m.length c), (1, .func (.func 36) #[] #[q0]), (7, .int .i64 ((m.length : Nat) : Int)), (8, .int .i64 ((k : Nat) : Int))]) (fun k gm W => (gm = m.length - k) ∧ (k ≤ m.length) ∧ (fidx g 0 m = fidx g k (m.drop k)) ∧ (Below w.heap.size w W) ∧ (w.heap.size ≤ W.heap.size)) 0 (m.length - 0) ⟨rfl, (by first | assumption | omega | rfl | exact Eq.trans (by assumption) (fidx_no _ _ _ (by omega) (by assumption))), (by first | assumption | omega | rfl | exact Eq.trans (by assumption) (fidx_no _ _ _ (by omega) (by assumption))), hB0, (by omega)⟩ (Sub.cons rfl (Sub.cons rfl (Sub.cons rfl (Sub.cons rfl (Sub.nil))))) ?_
  intro k gm1 w1 hinv
  obtain ⟨hm1, hi1, hi2, hB1, hz1⟩ := hinv
  change CW _ _ _ _ [(0, .slice p m.length c), (1, .func (.func 36) #[] #[q0]), (7, .int .i64 ((m.length : Nat) : Int)), (8, .int .i64 ((k : Nat) : Int))] _
  refine CW.seq ?_
  refine CW.region ?_
  refine RW.yl rfl rfl rfl (Yl.lss rfl rfl rfl) ?_
  refine RW.nil ?_
  change CW _ _ _ _ _ _
  refine CW.seq ?_
  refine CW.cond rfl ?_ ?_
  ·
    intro hg1
    have hq2 := of_decide_eq_true hg1
    first
    | (exfalso; omega)
    | (
      refine CW.skip ?_
      change CW _ _ _ _ _ _
      refine CW.seq ?_
      refine CW.block ?_
      refine CW.seq ?_
      refine CW.region ?_
      refine RW.yl rfl rfl rfl (Yl.move rfl rfl) ?_
      refine RW.yl rfl rfl rfl (Yl.assign rfl rfl) ?_
      refine RW.nil ?_
      change CW _ _ _ _ _ _
      refine CW.seq ?_
      refine CW.region ?_
      refine RW.yl rfl rfl rfl (Yl.move rfl rfl) ?_
      refine RW.yl rfl rfl rfl (Yl.move rfl rfl) ?_
      refine RW.yl rfl rfl rfl (Yl.move rfl rfl) ?_
      obtain ⟨bx1, ox1, px1, cx1, hp1, hl1, hh1, hc1, hx1, hn1⟩ := (hv.mono (kept_from hB0 hB1 (Nat.le_refl _))).at k (by omega)
      refine RW.yl rfl rfl rfl (Yl.indexAddr1 (k := k) rfl rfl rfl Try.underlying22 sz31 hp1 rfl (by omega)) ?_
      refine RW.yl rfl rfl rfl (Yl.load rfl rfl one31 hc1) ?_
      refine RW.fn rfl rfl rfl (Yc.closure #[.slice px1 ((m[k]!).length) cx1, q0] rfl rfl ok36 (capt (args1 rfl) rfl)) (HC hB1 (hx1.wide (Nat.zero_le _) (by omega))) ?_
      rintro _ w2 ⟨rfl, H1⟩
      have hB2 := Bl.step hB1 H1
      have hz2 := H1.size
      refine RW.nil ?_
      change CW _ _ _ _ _ _
      refine CW.cond rfl ?_ ?_
      ·
        intro hg2
        first
        | (exfalso; omega)
        | (
          refine CW.seq ?_
          refine CW.region ?_
          refine RW.yl rfl rfl rfl (Yl.move rfl rfl) ?_
          refine RW.yl rfl rfl rfl (Yl.assign rfl rfl) ?_
          refine RW.nil ?_
          change CW _ _ _ _ _ _
          refine CW.ret ?_
          change FinQ _ _ _ _ _ _
          refine fin1 (.inr rfl) rfl rfl ?_
          exact ⟨_, rfl, ival (by first | exact (Eq.trans (by assumption) (fidx_yes _ _ _ (by omega) (by assumption))).symm | exact (Eq.trans (by assumption) (fidx_end _ _ _ (by omega))).symm), hB2⟩)
      ·
        intro hg3
        first
        | (exfalso; omega)
        | (
          refine CW.skip ?_
          change CW _ _ _ _ _ _
          refine CW.region ?_
          refine RW.yl rfl rfl rfl (Yl.addN (a := k) (b := 1) rfl rfl rfl (by omega)) ?_
          refine RW.yl rfl rfl rfl (Yl.move rfl rfl) ?_
          refine RW.nil ?_
          refine ⟨k + 1, m.length - (k + 1), by omega, ⟨rfl, (by first | assumption | omega | rfl | exact Eq.trans (by assumption) (fidx_no _ _ _ (by omega) (by assumption))), (by first | assumption | omega | rfl | exact Eq.trans (by assumption) (fidx_no _ _ _ (by omega) (by assumption))), hB2, (by omega)⟩, Sub.cons rfl (Sub.cons rfl (Sub.cons rfl (Sub.cons rfl (Sub.nil))))⟩))
  ·
    intro hg4
    have hq6 := of_decide_eq_false hg4
    first
    | (exfalso; omega)
    | (
      refine CW.exit ?_
      change CW _ _ _ _ _ _
      refine CW.seq ?_
      refine CW.region ?_
      refine RW.yl rfl rfl rfl (Yl.assign rfl rfl) ?_
      refine RW.nil ?_
      change CW _ _ _ _ _ _
      refine CW.ret ?_
      change FinQ _ _ _ _ _ _
      refine fin1 (.inr rfl) rfl rfl ?_
      exact ⟨_, rfl, ival (by first | exact (Eq.trans (by assumption) (fidx_yes _ _ _ (by omega) (by assumption))).symm | exact (Eq.trans (by assumption) (fidx_end _ _ _ (by omega))).symm), hB1⟩)

theorem c35_36 {w : World} {v : Value} {m : List (List Int)} (hv : RRows 0 w.heap.size w v m) {q0 : Value} {g : List Int → Bool} (HC : ∀ {W : World} {x : Value} {l : List Int}, Below w.heap.size w W → RInts 0 W.heap.size W x l → Calls Try.prog 36 #[x, q0] W (Ret fun r w' => r = .bool (g l) ∧ Below W.heap.size W w')) :
    Calls Try.prog 35 #[v, .func (.func 36) #[] #[q0]] w (Ret fun r w' => r = .bool (m.any g) ∧ Below w.heap.size w w') := by
  obtain ⟨p, c, rfl, hl⟩ := hv.form
  have hB0 : Below w.heap.size w w := Below.refl _ _
  refine Ev.calls (l := [.slice p m.length c, .func (.func 36) #[] #[q0]]) Try.func35 rfl rfl rfl ?_
  change CW _ _ _ _ [(0, .slice p m.length c), (1, .func (.func 36) #[] #[q0])] _
  refine CW.seq ?_
  refine CW.region ?_
  refine RW.yl rfl rfl rfl (Yl.assign rfl rfl) ?_
  refine RW.nil ?_
  change CW _ _ _ _ _ _
  refine CW.seq ?_
  refine CW.region ?_
  refine RW.yl rfl rfl rfl (Yl.move rfl rfl) ?_
  refine RW.yl rfl rfl rfl (Yl.move rfl rfl) ?_
  refine RW.fn rfl rfl rfl (Yc.func #[.slice p m.length c, .func (.func 36) #[] #[q0]] rfl ok56 (args2 rfl rfl)) (c56_36 (hv.wide (Nat.zero_le _) (by omega)) HC) ?_
  rintro _ w1 ⟨rfl, H1⟩
  have hB1 := Bl.step hB0 H1
  have hz1 := H1.size
  refine RW.yl rfl rfl rfl (Yl.geq rfl rfl rfl) ?_
  refine RW.yl rfl rfl rfl (Yl.assign rfl rfl) ?_
  refine RW.nil ?_
  change CW _ _ _ _ _ _
  refine CW.ret ?_
  change FinQ _ _ _ _ _ _
  refine fin1 (.inr rfl) rfl rfl ?_
  exact ⟨_, rfl, bval (fidx_any g m 0), hB1⟩

set_option maxHeartbeats 4000000 in
theorem c11 {w : World} {v : Value} {c : List (List Int)} (hv : RRows 0 w.heap.size w v c) {n : Int} (hcap : ∀ q l k, v = .slice q l k → l ≤ k) :
    Calls Try.prog 11 #[.agg #[v], .int .i64 n] w (Ret fun r w' => r = .bool true ∧ Below w.heap.size w w') := by
  obtain ⟨p, cc, rfl, hl⟩ := hv.form
  have hcap0 := hcap _ _ _ rfl
  have hB0 : Below w.heap.size w w := Below.refl _ _
  refine Ev.calls (l := [.agg #[.slice p c.length cc], .int .i64 n]) Try.func11 rfl rfl rfl ?_
  change CW _ _ _ _ [(0, .agg #[.slice p c.length cc]), (1, .int .i64 n)] _
  refine CW.seq ?_
  refine CW.region ?_
  refine RW.newP (cs := #[.slice p c.length cc]) (T := 24) rfl rfl rfl (Yv.box (v := .agg #[.slice p c.length cc]) rfl rfl) ?_
  intro b1 w1 N1
  have lo_b1 : w.heap.size ≤ b1 := by have := hB0.size; have := N1.num; omega
  have hn_b1 := N1.num
  have hs_b1 := N1.size
  have hB1 := Bl.step hB0 N1.below
  refine RW.yl rfl rfl rfl (Yl.assign rfl rfl) ?_
  refine RW.nil ?_
  change CW _ _ _ _ _ _
  refine CW.seq ?_
  refine CW.seq ?_
  refine CW.region ?_
  refine RW.fn rfl rfl rfl (Yc.func #[] rfl ok12 (args0)) (c12) ?_
  rintro _ w2 ⟨rfl, H1⟩
  have hB2 := Bl.step hB1 H1
  have hK1 := Blk.below N1.blk H1
  have hz1 := H1.size
  refine RW.yl rfl rfl rfl (Yl.not rfl rfl) ?_
  refine RW.nil ?_
  change CW _ _ _ _ _ _
  refine CW.condF rfl ?_
  refine CW.skip ?_
  change CW _ _ _ _ _ _
  refine CW.seq ?_
  refine CW.seq ?_
  rcases Bool.eq_false_or_eq_true (smallB c 8) with hg1 | hg1
  ·
    first
    | (exfalso; omega)
    | (
      rcases Bool.eq_false_or_eq_true (validB c) with hg2 | hg2
      ·
        have hv_c : validB c = true := hg2
        have ht_c := totG_bounds hv_c
        have hcc_c := validB_chan hv_c
        have hr1_c := hcc_c.r1
        have hr2_c := hcc_c.r2
        have hc1_c := hcc_c.c1
        have hc2_c := hcc_c.c2
        first
        | (exfalso; omega)
        | (
          rcases Bool.eq_false_or_eq_true (decide (n < 1)) with hg3 | hg3
          ·
            have hq3 := of_decide_eq_true hg3
            first
            | (exfalso; omega)
            | (
              refine CW.region ?_
              refine RW.yl rfl rfl rfl (Yl.loadAgg (cs := [.slice p c.length cc]) rfl rfl many24 (Blk.cells hK1)) ?_
              refine RW.fn rfl rfl rfl (Yc.func #[.agg #[.slice p c.length cc], .int .i64 8] rfl ok13 (args2 rfl rfl)) (c13 ((hv.mono (kept_from hB0 hB2 (Nat.le_refl _))).wide (Nat.zero_le _) (by omega))) ?_
              rintro _ w3 ⟨rfl, H2⟩
              have hB3 := Bl.step hB2 H2
              have hK2 := Blk.below hK1 H2
              have hz2 := H2.size
              rw [hg1]
              refine RW.yl rfl rfl rfl (Yl.not rfl rfl) ?_
              refine RW.yl rfl rfl rfl (Yl.move rfl rfl) ?_
              refine RW.yl rfl rfl rfl (Yl.loadAgg (cs := [.slice p c.length cc]) rfl rfl many24 (Blk.cells hK2)) ?_
              refine RW.fn rfl rfl rfl (Yc.func #[.agg #[.slice p c.length cc]] rfl ok15 (args1 rfl)) (c15 ((hv.mono (kept_from hB0 hB3 (Nat.le_refl _))).wide (Nat.zero_le _) (by omega))) ?_
              rintro _ w4 ⟨rfl, H3⟩
              have hB4 := Bl.step hB3 H3
              have hK3 := Blk.below hK2 H3
              have hz3 := H3.size
              rw [hg2]
              refine RW.yl rfl rfl rfl (Yl.not rfl rfl) ?_
              refine RW.yl rfl rfl rfl (Yl.pickF rfl rfl rfl) ?_
              refine RW.yl rfl rfl rfl (Yl.move rfl rfl) ?_
              refine RW.yl rfl rfl rfl (Yl.move rfl rfl) ?_
              refine RW.yl rfl rfl rfl (Yl.eqb (Yl.lss rfl rfl rfl) hg3) ?_
              refine RW.yl rfl rfl rfl (Yl.pickF rfl rfl rfl) ?_
              refine RW.yl rfl rfl rfl (Yl.move rfl rfl) ?_
              refine RW.skip rfl rfl rfl ?_
              refine RW.skip rfl rfl rfl ?_
              refine RW.yl rfl rfl rfl (Yl.pickT rfl rfl rfl) ?_
              refine RW.nil ?_
              change CW _ _ _ _ _ _
              refine CW.condT rfl ?_
              refine CW.seq ?_
              refine CW.region ?_
              refine RW.yl rfl rfl rfl (Yl.assign rfl rfl) ?_
              refine RW.nil ?_
              change CW _ _ _ _ _ _
              refine CW.ret ?_
              change FinQ _ _ _ _ _ _
              refine fin1 (.inr rfl) rfl rfl ?_
              exact ⟨_, rfl, bval (by first | rfl | exact decide_eq_true (by omega) | exact decide_eq_true (by assumption)), hB4⟩)
          ·
            have hq3 := of_decide_eq_false hg3
            first
            | (exfalso; omega)
            | (
              refine CW.region ?_
              refine RW.yl rfl rfl rfl (Yl.loadAgg (cs := [.slice p c.length cc]) rfl rfl many24 (Blk.cells hK1)) ?_
              refine RW.fn rfl rfl rfl (Yc.func #[.agg #[.slice p c.length cc], .int .i64 8] rfl ok13 (args2 rfl rfl)) (c13 ((hv.mono (kept_from hB0 hB2 (Nat.le_refl _))).wide (Nat.zero_le _) (by omega))) ?_
              rintro _ w5 ⟨rfl, H4⟩
              have hB5 := Bl.step hB2 H4
              have hK4 := Blk.below hK1 H4
              have hz4 := H4.size
              rw [hg1]
              refine RW.yl rfl rfl rfl (Yl.not rfl rfl) ?_
              refine RW.yl rfl rfl rfl (Yl.move rfl rfl) ?_
              refine RW.yl rfl rfl rfl (Yl.loadAgg (cs := [.slice p c.length cc]) rfl rfl many24 (Blk.cells hK4)) ?_
              refine RW.fn rfl rfl rfl (Yc.func #[.agg #[.slice p c.length cc]] rfl ok15 (args1 rfl)) (c15 ((hv.mono (kept_from hB0 hB5 (Nat.le_refl _))).wide (Nat.zero_le _) (by omega))) ?_
              rintro _ w6 ⟨rfl, H5⟩
              have hB6 := Bl.step hB5 H5
              have hK5 := Blk.below hK4 H5
              have hz5 := H5.size
              rw [hg2]
              refine RW.yl rfl rfl rfl (Yl.not rfl rfl) ?_
              refine RW.yl rfl rfl rfl (Yl.pickF rfl rfl rfl) ?_
              refine RW.yl rfl rfl rfl (Yl.move rfl rfl) ?_
              refine RW.yl rfl rfl rfl (Yl.move rfl rfl) ?_
              refine RW.yl rfl rfl rfl (Yl.eqb (Yl.lss rfl rfl rfl) hg3) ?_
              refine RW.yl rfl rfl rfl (Yl.pickF rfl rfl rfl) ?_
              refine RW.yl rfl rfl rfl (Yl.move rfl rfl) ?_
              refine RW.yl rfl rfl rfl (Yl.move rfl rfl) ?_
              refine RW.yl rfl rfl rfl (Yl.gtr rfl rfl rfl) ?_
              refine RW.yl rfl rfl rfl (Yl.pickF rfl rfl rfl) ?_
              refine RW.nil ?_
              change CW _ _ _ _ _ _
              refine CW.cond rfl ?_ ?_
              ·
                intro hg4
                have hq5 := of_decide_eq_true hg4
                first
                | (exfalso; omega)
                | (
                  refine CW.seq ?_
                  refine CW.region ?_
                  refine RW.yl rfl rfl rfl (Yl.assign rfl rfl) ?_
                  refine RW.nil ?_
                  change CW _ _ _ _ _ _
                  refine CW.ret ?_
                  change FinQ _ _ _ _ _ _
                  refine fin1 (.inr rfl) rfl rfl ?_
                  exact ⟨_, rfl, bval (by first | rfl | exact decide_eq_true (by omega) | exact decide_eq_true (by assumption)), hB6⟩)
              ·
                intro hg5
                have hq7 := of_decide_eq_false hg5
                first
                | (exfalso; omega)
                | (
                  refine CW.skip ?_
                  change CW _ _ _ _ _ _
                  refine CW.seq ?_
                  refine CW.region ?_
                  refine RW.yl rfl rfl rfl (Yl.loadAgg (cs := [.slice p c.length cc]) rfl rfl many24 (Blk.cells hK5)) ?_
                  refine RW.yl rfl rfl rfl (Yl.move rfl rfl) ?_
                  refine RW.fn rfl rfl rfl (Yc.func #[.agg #[.slice p c.length cc], .int .i64 n] rfl ok25 (args2 rfl rfl)) (c25 ((hv.mono (kept_from hB0 hB6 (Nat.le_refl _))).wide (Nat.zero_le _) (by omega))) ?_
                  rintro _ w7 ⟨s1, rfl, hR1, H6⟩
                  obtain ⟨ps1, cs1, rfl, hl1⟩ := hR1.form
                  have hB7 := Bl.step hB6 H6
                  have hK6 := Blk.below hK5 H6
                  have hz6 := H6.size
                  refine RW.yl rfl rfl rfl (Yl.move rfl rfl) ?_
                  refine RW.yl rfl rfl rfl (Yl.extract rfl rfl rfl) ?_
                  refine RW.yl rfl rfl rfl (Yl.extract rfl rfl rfl) ?_
                  refine RW.newP (cs := #[.slice none 0 0]) (T := 24) rfl rfl rfl (Yv.alloc (z := .agg #[.slice none 0 0]) rfl zero24) ?_
                  intro b2 w8 N2
                  have ne1 := New.ne N2 hK6
                  have lo_b2 : w.heap.size ≤ b2 := by have := hB7.size; have := N2.num; omega
                  have hn_b2 := N2.num
                  have hs_b2 := N2.size
                  have hB8 := Bl.step hB7 N2.below
                  have hK7 := Blk.below hK6 N2.below
                  have hR2 := hR1.mono (kept_below N2.below (by omega))
                  refine RW.stoAll (cs' := #[.slice ps1 (((repR c n).1).length) cs1]) rfl rfl N2.blk (Yu.storeAll rfl rfl rfl sz24 N2.blk rfl (by simp [Value.oneCell'])) ?_
                  intro w9 H7
                  have hB9 := Bl.sto hB8 H7 lo_b2
                  have hK8 := Blk.sto hK7 H7 ne1
                  have hK9 := H7.blk
                  have hR3 := hR2.mono (kept_sto H7 (by omega) (by omega))
                  have hz7 := H7.size
                  refine RW.yl rfl rfl rfl (Yl.assign rfl rfl) ?_
                  refine RW.nil ?_
                  change CW _ _ _ _ _ _
                  refine CW.seq ?_
                  refine CW.region ?_
                  refine RW.yl rfl rfl rfl (Yl.loadAgg (cs := [.slice p c.length cc]) rfl rfl many24 (Blk.cells hK8)) ?_
                  refine RW.yl rfl rfl rfl (Yl.move rfl rfl) ?_
                  refine RW.yl rfl rfl rfl (Yl.add (m := n) (n := 1) rfl rfl rfl (by omega)) ?_
                  refine RW.fn rfl rfl rfl (Yc.func #[.agg #[.slice p c.length cc], .int .i64 (n + 1)] rfl ok25 (args2 rfl rfl)) (c25 ((hv.mono (kept_from hB0 hB9 (Nat.le_refl _))).wide (Nat.zero_le _) (by omega))) ?_
                  rintro _ w10 ⟨s2, rfl, hR4, H8⟩
                  obtain ⟨ps2, cs2, rfl, hl2⟩ := hR4.form
                  have hB10 := Bl.step hB9 H8
                  have hK10 := Blk.below hK8 H8
                  have hK11 := Blk.below hK9 H8
                  have hR5 := hR3.mono (kept_below H8 (by omega))
                  have hz8 := H8.size
                  refine RW.yl rfl rfl rfl (Yl.move rfl rfl) ?_
                  refine RW.yl rfl rfl rfl (Yl.extract rfl rfl rfl) ?_
                  refine RW.yl rfl rfl rfl (Yl.extract rfl rfl rfl) ?_
                  refine RW.newP (cs := #[.slice none 0 0]) (T := 24) rfl rfl rfl (Yv.alloc (z := .agg #[.slice none 0 0]) rfl zero24) ?_
                  intro b3 w11 N3
                  have ne2 := New.ne N3 hK10
                  have ne3 := New.ne N3 hK11
                  have lo_b3 : w.heap.size ≤ b3 := by have := hB10.size; have := N3.num; omega
                  have hn_b3 := N3.num
                  have hs_b3 := N3.size
                  have hB11 := Bl.step hB10 N3.below
                  have hK12 := Blk.below hK10 N3.below
                  have hK13 := Blk.below hK11 N3.below
                  have hR6 := hR5.mono (kept_below N3.below (by omega))
                  have hR7 := hR4.mono (kept_below N3.below (by omega))
                  refine RW.stoAll (cs' := #[.slice ps2 (((repR c (n + 1)).1).length) cs2]) rfl rfl N3.blk (Yu.storeAll rfl rfl rfl sz24 N3.blk rfl (by simp [Value.oneCell'])) ?_
                  intro w12 H9
                  have hB12 := Bl.sto hB11 H9 lo_b3
                  have hK14 := Blk.sto hK12 H9 ne2
                  have hK15 := Blk.sto hK13 H9 ne3
                  have hK16 := H9.blk
                  have hR8 := hR6.mono (kept_sto H9 (by omega) (by omega))
                  have hR9 := hR7.mono (kept_sto H9 (by omega) (by omega))
                  have hz9 := H9.size
                  refine RW.yl rfl rfl rfl (Yl.assign rfl rfl) ?_
                  refine RW.nil ?_
                  change CW _ _ _ _ _ _
                  refine CW.seq ?_
                  refine CW.seq ?_
                  rcases Bool.eq_false_or_eq_true (decide (((repR c n).2) = 0)) with hg6 | hg6
                  ·
                    have hq8 := of_decide_eq_true hg6
                    first
                    | (exfalso; omega)
                    | (
                      refine CW.region ?_
                      refine RW.yl rfl rfl rfl (Yl.move rfl rfl) ?_
                      refine RW.yl rfl rfl rfl (Yl.eqb (Yl.neq rfl rfl rfl) (congrArg (fun b => !b) hg6)) ?_
                      refine RW.yl rfl rfl rfl (Yl.move rfl rfl) ?_
                      refine RW.yl rfl rfl rfl (Yl.move rfl rfl) ?_
                      refine RW.yl rfl rfl rfl (Yl.neq rfl rfl rfl) ?_
                      refine RW.yl rfl rfl rfl (Yl.pickF rfl rfl rfl) ?_
                      refine RW.nil ?_
                      change CW _ _ _ _ _ _
                      refine CW.cond rfl ?_ ?_
                      ·
                        intro hg7
                        have hg8 : decide (((repR c (n + 1)).2) = 0) = false := not_t hg7
                        have hq10 := of_decide_eq_false hg8
                        first
                        | (exfalso; omega)
                        | (
                          refine CW.seq ?_
                          refine CW.region ?_
                          refine RW.yl rfl rfl rfl (Yl.assign rfl rfl) ?_
                          refine RW.nil ?_
                          change CW _ _ _ _ _ _
                          refine CW.ret ?_
                          change FinQ _ _ _ _ _ _
                          refine fin1 (.inr rfl) rfl rfl ?_
                          exact ⟨_, rfl, bval (by first | rfl | exact decide_eq_true (by omega) | exact decide_eq_true (by assumption)), hB12⟩)
                      ·
                        intro hg9
                        have hg10 : decide (((repR c (n + 1)).2) = 0) = true := not_f hg9
                        have hq12 := of_decide_eq_true hg10
                        obtain ⟨hv_p, hv_q, hw1, hw2, hw3⟩ := rep_facts (n := n) hv_c (by omega) (by omega) (by omega) (by omega)
                        have ht_p := totG_bounds hv_p
                        have ht_q := totG_bounds hv_q
                        obtain ⟨hwp, hwpc, hwpt⟩ := worth_mul_bounds hv_p hv_c
                        obtain ⟨hwq, hwqc, hwqt⟩ := worth_mul_bounds hv_q hv_c
                        first
                        | (exfalso; omega)
                        | (
                          refine CW.skip ?_
                          change CW _ _ _ _ _ _
                          refine CW.seq ?_
                          refine CW.seq ?_
                          refine CW.region ?_
                          refine RW.yl rfl rfl rfl (Yl.loadAgg (cs := [.slice ps1 (((repR c n).1).length) cs1]) rfl rfl many24 (Blk.cells hK15)) ?_
                          refine RW.fn rfl rfl rfl (Yc.func #[.agg #[.slice ps1 (((repR c n).1).length) cs1]] rfl ok15 (args1 rfl)) (c15 (hR8.wide (Nat.zero_le _) (by omega))) ?_
                          rintro _ w13 ⟨rfl, H10⟩
                          have hB13 := Bl.step hB12 H10
                          have hK17 := Blk.below hK14 H10
                          have hK18 := Blk.below hK15 H10
                          have hK19 := Blk.below hK16 H10
                          have hR10 := hR8.mono (kept_below H10 (by omega))
                          have hR11 := hR9.mono (kept_below H10 (by omega))
                          have hz10 := H10.size
                          rw [hv_p]
                          refine RW.yl rfl rfl rfl (Yl.not rfl rfl) ?_
                          refine RW.yl rfl rfl rfl (Yl.move rfl rfl) ?_
                          refine RW.yl rfl rfl rfl (Yl.loadAgg (cs := [.slice ps2 (((repR c (n + 1)).1).length) cs2]) rfl rfl many24 (Blk.cells hK19)) ?_
                          refine RW.fn rfl rfl rfl (Yc.func #[.agg #[.slice ps2 (((repR c (n + 1)).1).length) cs2]] rfl ok15 (args1 rfl)) (c15 (hR11.wide (Nat.zero_le _) (by omega))) ?_
                          rintro _ w14 ⟨rfl, H11⟩
                          have hB14 := Bl.step hB13 H11
                          have hK20 := Blk.below hK17 H11
                          have hK21 := Blk.below hK18 H11
                          have hK22 := Blk.below hK19 H11
                          have hR12 := hR10.mono (kept_below H11 (by omega))
                          have hR13 := hR11.mono (kept_below H11 (by omega))
                          have hz11 := H11.size
                          rw [hv_q]
                          refine RW.yl rfl rfl rfl (Yl.not rfl rfl) ?_
                          refine RW.yl rfl rfl rfl (Yl.pickF rfl rfl rfl) ?_
                          refine RW.nil ?_
                          change CW _ _ _ _ _ _
                          refine CW.condF rfl ?_
                          refine CW.skip ?_
                          change CW _ _ _ _ _ _
                          refine CW.seq ?_
                          refine CW.region ?_
                          refine RW.yl rfl rfl rfl (Yl.assign rfl rfl) ?_
                          refine RW.yl rfl rfl rfl (Yl.assign rfl rfl) ?_
                          refine RW.nil ?_
                          change CW _ _ _ _ _ _
                          refine CW.seq ?_
                          refine CW.seq ?_
                          refine CW.region ?_
                          refine RW.yl rfl rfl rfl (Yl.fieldAddr rfl rfl Try.underlying24 rfl sz22) ?_
                          refine RW.yl rfl rfl rfl (Yl.load rfl rfl one22 (Blk.cell hK20 rfl)) ?_
                          refine RW.yl rfl rfl rfl (Yl.len rfl rfl Try.underlying22) ?_
                          refine RW.yl rfl rfl rfl (Yl.move rfl rfl) ?_
                          refine RW.nil ?_
                          change CW _ _ _ _ _ _
                          refine CW.block ?_
                          refine CW.loop3 (fun (k : Nat) (D : Int) (B : Bool) => [(2, .pointer (some ⟨b1, 0, none⟩)), (4, .bool false), (5, .pointer (some ⟨b2, 0, none⟩)), (7, .pointer (some ⟨b3, 0, none⟩)), (9, .int .i64 D), (10, .bool B), (59, .slice p c.length cc), (60, .int .i64 ((c.length : Nat) : Int)), (61, .int .i64 ((k : Nat) : Int))]) (fun k D B gm W => (gm = c.length - k) ∧ (k ≤ c.length) ∧ (D = dcnt c k) ∧ (B = certB c k) ∧ (Below w.heap.size w W) ∧ (Blk W b1 #[.slice p c.length cc] 24) ∧ (Blk W b2 #[.slice ps1 (((repR c n).1).length) cs1] 24) ∧ (Blk W b3 #[.slice ps2 (((repR c (n + 1)).1).length) cs2] 24) ∧ (RRows w6.heap.size w7.heap.size W (.slice ps1 (((repR c n).1).length) cs1) ((repR c n).1)) ∧ (RRows w9.heap.size w10.heap.size W (.slice ps2 (((repR c (n + 1)).1).length) cs2) ((repR c (n + 1)).1)) ∧ (w14.heap.size ≤ W.heap.size)) 0 0 true (c.length - 0) ⟨rfl, (by first | assumption | omega | rfl | (first | exact dcnt_yes (by assumption) (by assumption) | exact dcnt_no (by assumption) (by assumption) | exact cert_yes (by assumption) (by omega) | exact cert_no (by omega))), (by first | assumption | omega | rfl | (first | exact dcnt_yes (by assumption) (by assumption) | exact dcnt_no (by assumption) (by assumption) | exact cert_yes (by assumption) (by omega) | exact cert_no (by omega))), (by first | assumption | omega | rfl | (first | exact dcnt_yes (by assumption) (by assumption) | exact dcnt_no (by assumption) (by assumption) | exact cert_yes (by assumption) (by omega) | exact cert_no (by omega))), hB14, hK20, hK21, hK22, hR12, hR13, (by omega)⟩ (Sub.cons rfl (Sub.cons rfl (Sub.cons rfl (Sub.cons rfl (Sub.cons rfl (Sub.cons rfl (Sub.cons rfl (Sub.cons rfl (Sub.cons rfl (Sub.nil)))))))))) ?_
                          intro k D B gm1 w15 hinv
                          obtain ⟨hm1, hi1, hi2, hi3, hB15, hK23, hK24, hK25, hR14, hR15, hz12⟩ := hinv
                          change CW _ _ _ _ [(2, .pointer (some ⟨b1, 0, none⟩)), (4, .bool false), (5, .pointer (some ⟨b2, 0, none⟩)), (7, .pointer (some ⟨b3, 0, none⟩)), (9, .int .i64 D), (10, .bool B), (59, .slice p c.length cc), (60, .int .i64 ((c.length : Nat) : Int)), (61, .int .i64 ((k : Nat) : Int))] _
                          have hDk := dcnt_bounds c k
                          refine CW.seq ?_
                          refine CW.region ?_
                          refine RW.yl rfl rfl rfl (Yl.lss rfl rfl rfl) ?_
                          refine RW.nil ?_
                          change CW _ _ _ _ _ _
                          refine CW.seq ?_
                          refine CW.cond rfl ?_ ?_
                          ·
                            intro hg11
                            have hq14 := of_decide_eq_true hg11
                            first
                            | (exfalso; omega)
                            | (
                              refine CW.skip ?_
                              change CW _ _ _ _ _ _
                              refine CW.seq ?_
                              refine CW.block ?_
                              refine CW.seq ?_
                              refine CW.region ?_
                              refine RW.yl rfl rfl rfl (Yl.move rfl rfl) ?_
                              obtain ⟨bx1, ox1, px1, cx1, hp1, hl3, hh1, hc1, hx1, hn1⟩ := (hv.mono (kept_from hB0 hB15 (Nat.le_refl _))).at k (by omega)
                              refine RW.yl rfl rfl rfl (Yl.indexAddr1 (k := k) rfl rfl rfl Try.underlying22 sz31 hp1 rfl (by omega)) ?_
                              refine RW.yl rfl rfl rfl (Yl.load rfl rfl one31 hc1) ?_
                              refine RW.newP (cs := #[.slice none 0 0]) (T := 31) rfl rfl rfl (Yv.alloc (z := .slice none 0 0) rfl zero31) ?_
                              intro b4 w16 N4
                              have ne4 := New.ne N4 hK23
                              have ne5 := New.ne N4 hK24
                              have ne6 := New.ne N4 hK25
                              have lo_b4 : w.heap.size ≤ b4 := by have := hB15.size; have := N4.num; omega
                              have hn_b4 := N4.num
                              have hs_b4 := N4.size
                              have hB16 := Bl.step hB15 N4.below
                              have hK26 := Blk.below hK23 N4.below
                              have hK27 := Blk.below hK24 N4.below
                              have hK28 := Blk.below hK25 N4.below
                              have hR16 := hR14.mono (kept_below N4.below (by omega))
                              have hR17 := hR15.mono (kept_below N4.below (by omega))
                              refine RW.yl rfl rfl rfl (Yl.assign rfl rfl) ?_
                              refine RW.sto (v := .slice px1 ((c[k]!).length) cx1) (i := 0) rfl rfl N4.blk (Yu.store rfl rfl rfl rfl rfl sz31 N4.blk (by simp)) ?_
                              intro w17 H12
                              have hB17 := Bl.sto hB16 H12 lo_b4
                              have hK29 := Blk.sto hK26 H12 ne4
                              have hK30 := Blk.sto hK27 H12 ne5
                              have hK31 := Blk.sto hK28 H12 ne6
                              have hK32 := H12.blk
                              have hR18 := hR16.mono (kept_sto H12 (by omega) (by omega))
                              have hR19 := hR17.mono (kept_sto H12 (by omega) (by omega))
                              have hz13 := H12.size
                              refine RW.nil ?_
                              change CW _ _ _ _ _ _
                              refine CW.seq ?_
                              refine CW.seq ?_
                              refine CW.region ?_
                              refine RW.yl rfl rfl rfl (Yl.fieldAddr rfl rfl Try.underlying24 rfl sz22) ?_
                              refine RW.yl rfl rfl rfl (Yl.load rfl rfl one22 (Blk.cell hK29 rfl)) ?_
                              refine RW.yl rfl rfl rfl (Yl.move rfl rfl) ?_
                              have hR20 := RRows.take (c' := cc) k (hv.mono (kept_from hB0 hB17 (Nat.le_refl _))) (by omega)
                              refine RW.yl rfl rfl rfl (Yl.sliceTo (k := k) rfl rfl rfl Try.underlying22 sz31 rfl (by omega)) ?_
                              refine RW.yl rfl rfl rfl (Yl.func #[.pointer (some ⟨b4, 0, none⟩)] rfl rfl (args1 rfl)) ?_
                              refine RW.fn rfl rfl rfl (Yc.func #[.slice p k cc, .func (.func 36) #[] #[.pointer (some ⟨b4, 0, none⟩)]] rfl ok35 (args2 rfl rfl)) (c35_36 (hR20.wide (Nat.zero_le _) (by omega)) (g := fun l => decide (l = (c[k]!))) (fun hb hx => c36 hx (Blk.below hK32 hb) ((((hx1.mono (kept_from hB15 hB17 (Nat.le_refl _))).wide (Nat.zero_le _) (by omega)).mono (kept_below hb (Nat.le_refl _))).wide (Nat.zero_le _) hb.size))) ?_
                              rintro _ w18 ⟨rfl, H13⟩
                              have hB18 := Bl.step hB17 H13
                              have hK33 := Blk.below hK29 H13
                              have hK34 := Blk.below hK30 H13
                              have hK35 := Blk.below hK31 H13
                              have hK36 := Blk.below hK32 H13
                              have hR21 := hR18.mono (kept_below H13 (by omega))
                              have hR22 := hR19.mono (kept_below H13 (by omega))
                              have hz14 := H13.size
                              refine RW.yl rfl rfl rfl (Yl.not rfl rfl) ?_
                              refine RW.nil ?_
                              change CW _ _ _ _ _ _
                              refine CW.cond rfl ?_ ?_
                              ·
                                intro hg12
                                have hg13 : (c.take k).any (fun l => decide (l = (c[k]!))) = false := not_t hg12
                                first
                                | (exfalso; omega)
                                | (
                                  refine CW.region ?_
                                  refine RW.yl rfl rfl rfl (Yl.move rfl rfl) ?_
                                  refine RW.yl rfl rfl rfl (Yl.add (m := D) (n := 1) rfl rfl rfl (by omega)) ?_
                                  refine RW.yl rfl rfl rfl (Yl.assign rfl rfl) ?_
                                  refine RW.nil ?_
                                  change CW _ _ _ _ _ _
                                  refine CW.seq ?_
                                  refine CW.draw 5 rfl (Kp []) (by kernel_rfl) ?_
                                  intro w19 H14
                                  have hB19 := Bl.step hB18 H14
                                  have hK37 := Blk.below hK33 H14
                                  have hK38 := Blk.below hK34 H14
                                  have hK39 := Blk.below hK35 H14
                                  have hK40 := Blk.below hK36 H14
                                  have hR23 := hR21.mono (kept_below H14 (by omega))
                                  have hR24 := hR22.mono (kept_below H14 (by omega))
                                  have hz15 := H14.size
                                  have hS1 := Kp.refl [] w19
                                  refine RH.take 0 rfl (by kernel_rfl) rfl rfl rfl hS1 (fun W1 hW1 => Yl.load rfl rfl one31 (Blk.cell (Kp.blk hW1 hK40 (by simp)) rfl)) ?_
                                  refine RH.take 2 rfl (by kernel_rfl) rfl rfl rfl hS1 (fun W3 hW3 => Yl.loadAgg (cs := [.slice p c.length cc]) rfl rfl many24 (Blk.cells (Kp.blk hW3 hK37 (by simp)))) ?_
                                  refine RH.one 1 (by kernel_rfl) ?_
                                  refine RO.fn rfl rfl rfl rfl (Yc.func #[.slice px1 ((c[k]!).length) cx1] rfl ok38 (args1 rfl)) (c38 ((hx1.mono (kept_from hB15 hB19 (Nat.le_refl _))).wide (Nat.zero_le _) (by omega)) (by have := hcc_c.width k (by omega); omega)) ?_
                                  rintro _ w20 ⟨rfl, H15⟩
                                  have hS2 := Kp.step hS1 H15
                                  have hB20 := Bl.step hB19 H15
                                  have hK41 := Blk.below hK37 H15
                                  have hK42 := Blk.below hK38 H15
                                  have hK43 := Blk.below hK39 H15
                                  have hK44 := Blk.below hK40 H15
                                  have hR25 := hR23.mono (kept_below H15 (by omega))
                                  have hR26 := hR24.mono (kept_below H15 (by omega))
                                  have hz16 := H15.size
                                  refine ⟨hS2, ?_⟩
                                  refine RH.one 3 (by kernel_rfl) ?_
                                  refine RO.fn rfl rfl rfl rfl (Yc.func #[.agg #[.slice p c.length cc]] rfl ok17 (args1 rfl)) (c17 ((hv.mono (kept_from hB0 hB20 (Nat.le_refl _))).wide (Nat.zero_le _) (by omega)) (validB_chanT hv_c)) ?_
                                  rintro _ w21 ⟨rfl, H16⟩
                                  have hS3 := Kp.step hS2 H16
                                  have hB21 := Bl.step hB20 H16
                                  have hK45 := Blk.below hK41 H16
                                  have hK46 := Blk.below hK42 H16
                                  have hK47 := Blk.below hK43 H16
                                  have hK48 := Blk.below hK44 H16
                                  have hR27 := hR25.mono (kept_below H16 (by omega))
                                  have hR28 := hR26.mono (kept_below H16 (by omega))
                                  have hz17 := H16.size
                                  refine ⟨hS3, ?_⟩
                                  refine RH.take 4 rfl (by kernel_rfl) rfl rfl rfl hS3 (fun W6 hW6 => Yl.neq rfl rfl rfl) ?_
                                  refine RH.done (by kernel_rfl) ?_
                                  change CW _ _ _ _ _ _
                                  refine CW.cond rfl ?_ ?_
                                  ·
                                    intro hg14
                                    have hg15 : decide ((maxL (c[k]!) (c[k]!).length) = (totG c)) = false := not_t hg14
                                    have hq17 := of_decide_eq_false hg15
                                    first
                                    | (exfalso; omega)
                                    | (
                                      refine CW.region ?_
                                      refine RW.yl rfl rfl rfl (Yl.assign rfl rfl) ?_
                                      refine RW.nil ?_
                                      change CW _ _ _ _ _ _
                                      refine CW.region ?_
                                      refine RW.yl rfl rfl rfl (Yl.addN (a := k) (b := 1) rfl rfl rfl (by omega)) ?_
                                      refine RW.yl rfl rfl rfl (Yl.move rfl rfl) ?_
                                      refine RW.nil ?_
                                      refine ⟨(k + 1, D + 1, false), c.length - (k + 1), by omega, ⟨rfl, (by first | assumption | omega | rfl | (first | exact dcnt_yes (by assumption) (by assumption) | exact dcnt_no (by assumption) (by assumption) | exact cert_yes (by assumption) (by omega) | exact cert_no (by omega))), (by first | assumption | omega | rfl | (first | exact dcnt_yes (by assumption) (by assumption) | exact dcnt_no (by assumption) (by assumption) | exact cert_yes (by assumption) (by omega) | exact cert_no (by omega))), (by first | assumption | omega | rfl | (first | exact dcnt_yes (by assumption) (by assumption) | exact dcnt_no (by assumption) (by assumption) | exact cert_yes (by assumption) (by omega) | exact cert_no (by omega))), hB21, hK45, hK46, hK47, hR27, hR28, (by omega)⟩, Sub.cons rfl (Sub.cons rfl (Sub.cons rfl (Sub.cons rfl (Sub.cons rfl (Sub.cons rfl (Sub.cons rfl (Sub.cons rfl (Sub.cons rfl (Sub.nil)))))))))⟩)
                                  ·
                                    intro hg16
                                    have hg17 : decide ((maxL (c[k]!) (c[k]!).length) = (totG c)) = true := not_f hg16
                                    have hq19 := of_decide_eq_true hg17
                                    first
                                    | (exfalso; omega)
                                    | (
                                      refine CW.skip ?_
                                      change CW _ _ _ _ _ _
                                      refine CW.region ?_
                                      refine RW.yl rfl rfl rfl (Yl.addN (a := k) (b := 1) rfl rfl rfl (by omega)) ?_
                                      refine RW.yl rfl rfl rfl (Yl.move rfl rfl) ?_
                                      refine RW.nil ?_
                                      refine ⟨(k + 1, D + 1, B), c.length - (k + 1), by omega, ⟨rfl, (by first | assumption | omega | rfl | (first | exact dcnt_yes (by assumption) (by assumption) | exact dcnt_no (by assumption) (by assumption) | exact cert_yes (by assumption) (by omega) | exact cert_no (by omega))), (by first | assumption | omega | rfl | (first | exact dcnt_yes (by assumption) (by assumption) | exact dcnt_no (by assumption) (by assumption) | exact cert_yes (by assumption) (by omega) | exact cert_no (by omega))), (by first | assumption | omega | rfl | (first | exact dcnt_yes (by assumption) (by assumption) | exact dcnt_no (by assumption) (by assumption) | exact cert_yes (by assumption) (by omega) | exact cert_no (by omega))), hB21, hK45, hK46, hK47, hR27, hR28, (by omega)⟩, Sub.cons rfl (Sub.cons rfl (Sub.cons rfl (Sub.cons rfl (Sub.cons rfl (Sub.cons rfl (Sub.cons rfl (Sub.cons rfl (Sub.cons rfl (Sub.nil)))))))))⟩))
                              ·
                                intro hg18
                                have hg19 : (c.take k).any (fun l => decide (l = (c[k]!))) = true := not_f hg18
                                first
                                | (exfalso; omega)
                                | (
                                  refine CW.skip ?_
                                  change CW _ _ _ _ _ _
                                  refine CW.seq ?_
                                  refine CW.draw 5 rfl (Kp []) (by kernel_rfl) ?_
                                  intro w22 H17
                                  have hB22 := Bl.step hB18 H17
                                  have hK49 := Blk.below hK33 H17
                                  have hK50 := Blk.below hK34 H17
                                  have hK51 := Blk.below hK35 H17
                                  have hK52 := Blk.below hK36 H17
                                  have hR29 := hR21.mono (kept_below H17 (by omega))
                                  have hR30 := hR22.mono (kept_below H17 (by omega))
                                  have hz18 := H17.size
                                  have hS4 := Kp.refl [] w22
                                  refine RH.take 0 rfl (by kernel_rfl) rfl rfl rfl hS4 (fun W7 hW7 => Yl.load rfl rfl one31 (Blk.cell (Kp.blk hW7 hK52 (by simp)) rfl)) ?_
                                  refine RH.take 2 rfl (by kernel_rfl) rfl rfl rfl hS4 (fun W9 hW9 => Yl.loadAgg (cs := [.slice p c.length cc]) rfl rfl many24 (Blk.cells (Kp.blk hW9 hK49 (by simp)))) ?_
                                  refine RH.one 1 (by kernel_rfl) ?_
                                  refine RO.fn rfl rfl rfl rfl (Yc.func #[.slice px1 ((c[k]!).length) cx1] rfl ok38 (args1 rfl)) (c38 ((hx1.mono (kept_from hB15 hB22 (Nat.le_refl _))).wide (Nat.zero_le _) (by omega)) (by have := hcc_c.width k (by omega); omega)) ?_
                                  rintro _ w23 ⟨rfl, H18⟩
                                  have hS5 := Kp.step hS4 H18
                                  have hB23 := Bl.step hB22 H18
                                  have hK53 := Blk.below hK49 H18
                                  have hK54 := Blk.below hK50 H18
                                  have hK55 := Blk.below hK51 H18
                                  have hK56 := Blk.below hK52 H18
                                  have hR31 := hR29.mono (kept_below H18 (by omega))
                                  have hR32 := hR30.mono (kept_below H18 (by omega))
                                  have hz19 := H18.size
                                  refine ⟨hS5, ?_⟩
                                  refine RH.one 3 (by kernel_rfl) ?_
                                  refine RO.fn rfl rfl rfl rfl (Yc.func #[.agg #[.slice p c.length cc]] rfl ok17 (args1 rfl)) (c17 ((hv.mono (kept_from hB0 hB23 (Nat.le_refl _))).wide (Nat.zero_le _) (by omega)) (validB_chanT hv_c)) ?_
                                  rintro _ w24 ⟨rfl, H19⟩
                                  have hS6 := Kp.step hS5 H19
                                  have hB24 := Bl.step hB23 H19
                                  have hK57 := Blk.below hK53 H19
                                  have hK58 := Blk.below hK54 H19
                                  have hK59 := Blk.below hK55 H19
                                  have hK60 := Blk.below hK56 H19
                                  have hR33 := hR31.mono (kept_below H19 (by omega))
                                  have hR34 := hR32.mono (kept_below H19 (by omega))
                                  have hz20 := H19.size
                                  refine ⟨hS6, ?_⟩
                                  refine RH.take 4 rfl (by kernel_rfl) rfl rfl rfl hS6 (fun W12 hW12 => Yl.neq rfl rfl rfl) ?_
                                  refine RH.done (by kernel_rfl) ?_
                                  change CW _ _ _ _ _ _
                                  refine CW.cond rfl ?_ ?_
                                  ·
                                    intro hg20
                                    have hg21 : decide ((maxL (c[k]!) (c[k]!).length) = (totG c)) = false := not_t hg20
                                    have hq22 := of_decide_eq_false hg21
                                    first
                                    | (exfalso; omega)
                                    | (
                                      refine CW.region ?_
                                      refine RW.yl rfl rfl rfl (Yl.assign rfl rfl) ?_
                                      refine RW.nil ?_
                                      change CW _ _ _ _ _ _
                                      refine CW.region ?_
                                      refine RW.yl rfl rfl rfl (Yl.addN (a := k) (b := 1) rfl rfl rfl (by omega)) ?_
                                      refine RW.yl rfl rfl rfl (Yl.move rfl rfl) ?_
                                      refine RW.nil ?_
                                      refine ⟨(k + 1, D, false), c.length - (k + 1), by omega, ⟨rfl, (by first | assumption | omega | rfl | (first | exact dcnt_yes (by assumption) (by assumption) | exact dcnt_no (by assumption) (by assumption) | exact cert_yes (by assumption) (by omega) | exact cert_no (by omega))), (by first | assumption | omega | rfl | (first | exact dcnt_yes (by assumption) (by assumption) | exact dcnt_no (by assumption) (by assumption) | exact cert_yes (by assumption) (by omega) | exact cert_no (by omega))), (by first | assumption | omega | rfl | (first | exact dcnt_yes (by assumption) (by assumption) | exact dcnt_no (by assumption) (by assumption) | exact cert_yes (by assumption) (by omega) | exact cert_no (by omega))), hB24, hK57, hK58, hK59, hR33, hR34, (by omega)⟩, Sub.cons rfl (Sub.cons rfl (Sub.cons rfl (Sub.cons rfl (Sub.cons rfl (Sub.cons rfl (Sub.cons rfl (Sub.cons rfl (Sub.cons rfl (Sub.nil)))))))))⟩)
                                  ·
                                    intro hg22
                                    have hg23 : decide ((maxL (c[k]!) (c[k]!).length) = (totG c)) = true := not_f hg22
                                    have hq24 := of_decide_eq_true hg23
                                    first
                                    | (exfalso; omega)
                                    | (
                                      refine CW.skip ?_
                                      change CW _ _ _ _ _ _
                                      refine CW.region ?_
                                      refine RW.yl rfl rfl rfl (Yl.addN (a := k) (b := 1) rfl rfl rfl (by omega)) ?_
                                      refine RW.yl rfl rfl rfl (Yl.move rfl rfl) ?_
                                      refine RW.nil ?_
                                      refine ⟨(k + 1, D, B), c.length - (k + 1), by omega, ⟨rfl, (by first | assumption | omega | rfl | (first | exact dcnt_yes (by assumption) (by assumption) | exact dcnt_no (by assumption) (by assumption) | exact cert_yes (by assumption) (by omega) | exact cert_no (by omega))), (by first | assumption | omega | rfl | (first | exact dcnt_yes (by assumption) (by assumption) | exact dcnt_no (by assumption) (by assumption) | exact cert_yes (by assumption) (by omega) | exact cert_no (by omega))), (by first | assumption | omega | rfl | (first | exact dcnt_yes (by assumption) (by assumption) | exact dcnt_no (by assumption) (by assumption) | exact cert_yes (by assumption) (by omega) | exact cert_no (by omega))), hB24, hK57, hK58, hK59, hR33, hR34, (by omega)⟩, Sub.cons rfl (Sub.cons rfl (Sub.cons rfl (Sub.cons rfl (Sub.cons rfl (Sub.cons rfl (Sub.cons rfl (Sub.cons rfl (Sub.cons rfl (Sub.nil)))))))))⟩)))
                          ·
                            intro hg24
                            have hq26 := of_decide_eq_false hg24
                            obtain rfl : k = c.length := by omega
                            have hwle : worthM ((repR c (n + 1)).1) ≤ D * totG ((repR c (n + 1)).1) := by rw [show D = dcnt c c.length by assumption]; exact hw2
                            have hweq : B = true → worthM ((repR c (n + 1)).1) = D * totG ((repR c (n + 1)).1) := fun hB => by rw [show D = dcnt c c.length by assumption]; exact hw3 (by rw [← show B = certB c c.length by assumption]; exact hB)
                            have hDb := dcnt_bounds c c.length
                            have hD0 : 0 ≤ D ∧ D ≤ 256 := by omega
                            have hDq := mul_bound hD0 ⟨ht_q.1, ht_q.2.1⟩
                            first
                            | (exfalso; omega)
                            | (
                              refine CW.exit ?_
                              change CW _ _ _ _ _ _
                              refine CW.seq ?_
                              refine CW.seq ?_
                              rcases Bool.eq_false_or_eq_true (decide ((worthM ((repR c (n + 1)).1)) < ((worthM ((repR c n).1)) * (totG c)))) with hg25 | hg25
                              ·
                                have hq27 := of_decide_eq_true hg25
                                first
                                | (exfalso; omega)
                                | (
                                  refine CW.draw 17 rfl (Kp []) (by kernel_rfl) ?_
                                  intro w25 H20
                                  have hB25 := Bl.step hB15 H20
                                  have hK61 := Blk.below hK23 H20
                                  have hK62 := Blk.below hK24 H20
                                  have hK63 := Blk.below hK25 H20
                                  have hR35 := hR14.mono (kept_below H20 (by omega))
                                  have hR36 := hR15.mono (kept_below H20 (by omega))
                                  have hz21 := H20.size
                                  have hS7 := Kp.refl [] w25
                                  refine RH.take 0 rfl (by kernel_rfl) rfl rfl rfl hS7 (fun W13 hW13 => Yl.loadAgg (cs := [.slice ps2 (((repR c (n + 1)).1).length) cs2]) rfl rfl many24 (Blk.cells (Kp.blk hW13 hK63 (by simp)))) ?_
                                  refine RH.take 2 rfl (by kernel_rfl) rfl rfl rfl hS7 (fun W15 hW15 => Yl.loadAgg (cs := [.slice ps1 (((repR c n).1).length) cs1]) rfl rfl many24 (Blk.cells (Kp.blk hW15 hK62 (by simp)))) ?_
                                  refine RH.take 4 rfl (by kernel_rfl) rfl rfl rfl hS7 (fun W17 hW17 => Yl.loadAgg (cs := [.slice p c.length cc]) rfl rfl many24 (Blk.cells (Kp.blk hW17 hK61 (by simp)))) ?_
                                  refine RH.one 1 (by kernel_rfl) ?_
                                  refine RO.fn rfl rfl rfl rfl (Yc.func #[.agg #[.slice ps2 (((repR c (n + 1)).1).length) cs2]] rfl ok24 (args1 rfl)) (c24 (hR36.wide (Nat.zero_le _) (by omega)) (validB_chanT hv_q)) ?_
                                  rintro _ w26 ⟨rfl, H21⟩
                                  have hS8 := Kp.step hS7 H21
                                  have hB26 := Bl.step hB25 H21
                                  have hK64 := Blk.below hK61 H21
                                  have hK65 := Blk.below hK62 H21
                                  have hK66 := Blk.below hK63 H21
                                  have hR37 := hR35.mono (kept_below H21 (by omega))
                                  have hR38 := hR36.mono (kept_below H21 (by omega))
                                  have hz22 := H21.size
                                  refine ⟨hS8, ?_⟩
                                  refine RH.one 3 (by kernel_rfl) ?_
                                  refine RO.fn rfl rfl rfl rfl (Yc.func #[.agg #[.slice ps1 (((repR c n).1).length) cs1]] rfl ok24 (args1 rfl)) (c24 (hR37.wide (Nat.zero_le _) (by omega)) (validB_chanT hv_p)) ?_
                                  rintro _ w27 ⟨rfl, H22⟩
                                  have hS9 := Kp.step hS8 H22
                                  have hB27 := Bl.step hB26 H22
                                  have hK67 := Blk.below hK64 H22
                                  have hK68 := Blk.below hK65 H22
                                  have hK69 := Blk.below hK66 H22
                                  have hR39 := hR37.mono (kept_below H22 (by omega))
                                  have hR40 := hR38.mono (kept_below H22 (by omega))
                                  have hz23 := H22.size
                                  refine ⟨hS9, ?_⟩
                                  refine RH.one 5 (by kernel_rfl) ?_
                                  refine RO.fn rfl rfl rfl rfl (Yc.func #[.agg #[.slice p c.length cc]] rfl ok17 (args1 rfl)) (c17 ((hv.mono (kept_from hB0 hB27 (Nat.le_refl _))).wide (Nat.zero_le _) (by omega)) (validB_chanT hv_c)) ?_
                                  rintro _ w28 ⟨rfl, H23⟩
                                  have hS10 := Kp.step hS9 H23
                                  have hB28 := Bl.step hB27 H23
                                  have hK70 := Blk.below hK67 H23
                                  have hK71 := Blk.below hK68 H23
                                  have hK72 := Blk.below hK69 H23
                                  have hR41 := hR39.mono (kept_below H23 (by omega))
                                  have hR42 := hR40.mono (kept_below H23 (by omega))
                                  have hz24 := H23.size
                                  refine ⟨hS10, ?_⟩
                                  refine RH.take 6 rfl (by kernel_rfl) rfl rfl rfl hS10 (fun W21 hW21 => Yl.mul (m := worthM ((repR c n).1)) (n := totG c) rfl rfl rfl (by omega)) ?_
                                  refine RH.take 7 rfl (by kernel_rfl) rfl rfl rfl hS10 (fun W22 hW22 => Yl.eqb (Yl.lss rfl rfl rfl) hg25) ?_
                                  refine RH.take 8 rfl (by kernel_rfl) rfl rfl rfl hS10 (fun W23 hW23 => Yl.move rfl rfl) ?_
                                  refine RH.pass 9 rfl (by kernel_rfl) rfl rfl rfl hS10 ?_
                                  refine RH.pass 10 rfl (by kernel_rfl) rfl rfl rfl hS10 ?_
                                  refine RH.pass 11 rfl (by kernel_rfl) rfl rfl rfl hS10 ?_
                                  refine RH.pass 12 rfl (by kernel_rfl) rfl rfl rfl hS10 ?_
                                  refine RH.pass 13 rfl (by kernel_rfl) rfl rfl rfl hS10 ?_
                                  refine RH.pass 14 rfl (by kernel_rfl) rfl rfl rfl hS10 ?_
                                  refine RH.pass 15 rfl (by kernel_rfl) rfl rfl rfl hS10 ?_
                                  refine RH.take 16 rfl (by kernel_rfl) rfl rfl rfl hS10 (fun W24 hW24 => Yl.pickT rfl rfl rfl) ?_
                                  refine RH.done (by kernel_rfl) ?_
                                  change CW _ _ _ _ _ _
                                  refine CW.condT rfl ?_
                                  refine CW.seq ?_
                                  refine CW.region ?_
                                  refine RW.yl rfl rfl rfl (Yl.assign rfl rfl) ?_
                                  refine RW.nil ?_
                                  change CW _ _ _ _ _ _
                                  refine CW.ret ?_
                                  change FinQ _ _ _ _ _ _
                                  refine fin1 (.inr rfl) rfl rfl ?_
                                  exact ⟨_, rfl, bval (by first | rfl | exact decide_eq_true (by omega) | exact decide_eq_true (by assumption)), hB28⟩)
                              ·
                                have hq27 := of_decide_eq_false hg25
                                first
                                | (exfalso; omega)
                                | (
                                  refine CW.draw 17 rfl (Kp []) (by kernel_rfl) ?_
                                  intro w29 H24
                                  have hB29 := Bl.step hB15 H24
                                  have hK73 := Blk.below hK23 H24
                                  have hK74 := Blk.below hK24 H24
                                  have hK75 := Blk.below hK25 H24
                                  have hR43 := hR14.mono (kept_below H24 (by omega))
                                  have hR44 := hR15.mono (kept_below H24 (by omega))
                                  have hz25 := H24.size
                                  have hS11 := Kp.refl [] w29
                                  refine RH.take 0 rfl (by kernel_rfl) rfl rfl rfl hS11 (fun W25 hW25 => Yl.loadAgg (cs := [.slice ps2 (((repR c (n + 1)).1).length) cs2]) rfl rfl many24 (Blk.cells (Kp.blk hW25 hK75 (by simp)))) ?_
                                  refine RH.take 2 rfl (by kernel_rfl) rfl rfl rfl hS11 (fun W27 hW27 => Yl.loadAgg (cs := [.slice ps1 (((repR c n).1).length) cs1]) rfl rfl many24 (Blk.cells (Kp.blk hW27 hK74 (by simp)))) ?_
                                  refine RH.take 4 rfl (by kernel_rfl) rfl rfl rfl hS11 (fun W29 hW29 => Yl.loadAgg (cs := [.slice p c.length cc]) rfl rfl many24 (Blk.cells (Kp.blk hW29 hK73 (by simp)))) ?_
                                  refine RH.one 1 (by kernel_rfl) ?_
                                  refine RO.fn rfl rfl rfl rfl (Yc.func #[.agg #[.slice ps2 (((repR c (n + 1)).1).length) cs2]] rfl ok24 (args1 rfl)) (c24 (hR44.wide (Nat.zero_le _) (by omega)) (validB_chanT hv_q)) ?_
                                  rintro _ w30 ⟨rfl, H25⟩
                                  have hS12 := Kp.step hS11 H25
                                  have hB30 := Bl.step hB29 H25
                                  have hK76 := Blk.below hK73 H25
                                  have hK77 := Blk.below hK74 H25
                                  have hK78 := Blk.below hK75 H25
                                  have hR45 := hR43.mono (kept_below H25 (by omega))
                                  have hR46 := hR44.mono (kept_below H25 (by omega))
                                  have hz26 := H25.size
                                  refine ⟨hS12, ?_⟩
                                  refine RH.one 3 (by kernel_rfl) ?_
                                  refine RO.fn rfl rfl rfl rfl (Yc.func #[.agg #[.slice ps1 (((repR c n).1).length) cs1]] rfl ok24 (args1 rfl)) (c24 (hR45.wide (Nat.zero_le _) (by omega)) (validB_chanT hv_p)) ?_
                                  rintro _ w31 ⟨rfl, H26⟩
                                  have hS13 := Kp.step hS12 H26
                                  have hB31 := Bl.step hB30 H26
                                  have hK79 := Blk.below hK76 H26
                                  have hK80 := Blk.below hK77 H26
                                  have hK81 := Blk.below hK78 H26
                                  have hR47 := hR45.mono (kept_below H26 (by omega))
                                  have hR48 := hR46.mono (kept_below H26 (by omega))
                                  have hz27 := H26.size
                                  refine ⟨hS13, ?_⟩
                                  refine RH.one 5 (by kernel_rfl) ?_
                                  refine RO.fn rfl rfl rfl rfl (Yc.func #[.agg #[.slice p c.length cc]] rfl ok17 (args1 rfl)) (c17 ((hv.mono (kept_from hB0 hB31 (Nat.le_refl _))).wide (Nat.zero_le _) (by omega)) (validB_chanT hv_c)) ?_
                                  rintro _ w32 ⟨rfl, H27⟩
                                  have hS14 := Kp.step hS13 H27
                                  have hB32 := Bl.step hB31 H27
                                  have hK82 := Blk.below hK79 H27
                                  have hK83 := Blk.below hK80 H27
                                  have hK84 := Blk.below hK81 H27
                                  have hR49 := hR47.mono (kept_below H27 (by omega))
                                  have hR50 := hR48.mono (kept_below H27 (by omega))
                                  have hz28 := H27.size
                                  refine ⟨hS14, ?_⟩
                                  refine RH.take 6 rfl (by kernel_rfl) rfl rfl rfl hS14 (fun W33 hW33 => Yl.mul (m := worthM ((repR c n).1)) (n := totG c) rfl rfl rfl (by omega)) ?_
                                  refine RH.take 7 rfl (by kernel_rfl) rfl rfl rfl hS14 (fun W34 hW34 => Yl.eqb (Yl.lss rfl rfl rfl) hg25) ?_
                                  refine RH.take 8 rfl (by kernel_rfl) rfl rfl rfl hS14 (fun W35 hW35 => Yl.move rfl rfl) ?_
                                  refine RH.take 9 rfl (by kernel_rfl) rfl rfl rfl hS14 (fun W36 hW36 => Yl.loadAgg (cs := [.slice ps2 (((repR c (n + 1)).1).length) cs2]) rfl rfl many24 (Blk.cells (Kp.blk hW36 hK75 (by simp)))) ?_
                                  refine RH.take 11 rfl (by kernel_rfl) rfl rfl rfl hS14 (fun W38 hW38 => Yl.move rfl rfl) ?_
                                  refine RH.take 12 rfl (by kernel_rfl) rfl rfl rfl hS14 (fun W40 hW40 => Yl.loadAgg (cs := [.slice ps2 (((repR c (n + 1)).1).length) cs2]) rfl rfl many24 (Blk.cells (Kp.blk hW40 hK75 (by simp)))) ?_
                                  refine RH.one 10 (by kernel_rfl) ?_
                                  refine RO.fn rfl rfl rfl rfl (Yc.func #[.agg #[.slice ps2 (((repR c (n + 1)).1).length) cs2]] rfl ok24 (args1 rfl)) (c24 (hR50.wide (Nat.zero_le _) (by omega)) (validB_chanT hv_q)) ?_
                                  rintro _ w33 ⟨rfl, H28⟩
                                  have hS15 := Kp.step hS14 H28
                                  have hB33 := Bl.step hB32 H28
                                  have hK85 := Blk.below hK82 H28
                                  have hK86 := Blk.below hK83 H28
                                  have hK87 := Blk.below hK84 H28
                                  have hR51 := hR49.mono (kept_below H28 (by omega))
                                  have hR52 := hR50.mono (kept_below H28 (by omega))
                                  have hz29 := H28.size
                                  refine ⟨hS15, ?_⟩
                                  refine RH.one 13 (by kernel_rfl) ?_
                                  refine RO.fn rfl rfl rfl rfl (Yc.func #[.agg #[.slice ps2 (((repR c (n + 1)).1).length) cs2]] rfl ok17 (args1 rfl)) (c17 (hR52.wide (Nat.zero_le _) (by omega)) (validB_chanT hv_q)) ?_
                                  rintro _ w34 ⟨rfl, H29⟩
                                  have hS16 := Kp.step hS15 H29
                                  have hB34 := Bl.step hB33 H29
                                  have hK88 := Blk.below hK85 H29
                                  have hK89 := Blk.below hK86 H29
                                  have hK90 := Blk.below hK87 H29
                                  have hR53 := hR51.mono (kept_below H29 (by omega))
                                  have hR54 := hR52.mono (kept_below H29 (by omega))
                                  have hz30 := H29.size
                                  refine ⟨hS16, ?_⟩
                                  refine RH.take 14 rfl (by kernel_rfl) rfl rfl rfl hS16 (fun W43 hW43 => Yl.mul (m := D) (n := totG ((repR c (n + 1)).1)) rfl rfl rfl (by omega)) ?_
                                  refine RH.take 15 rfl (by kernel_rfl) rfl rfl rfl hS16 (fun W44 hW44 => Yl.gtr rfl rfl rfl) ?_
                                  refine RH.take 16 rfl (by kernel_rfl) rfl rfl rfl hS16 (fun W45 hW45 => Yl.pickF rfl rfl rfl) ?_
                                  refine RH.done (by kernel_rfl) ?_
                                  change CW _ _ _ _ _ _
                                  refine CW.cond rfl ?_ ?_
                                  ·
                                    intro hg26
                                    have hq29 := of_decide_eq_true hg26
                                    first
                                    | (exfalso; omega)
                                    | (
                                      refine CW.seq ?_
                                      refine CW.region ?_
                                      refine RW.yl rfl rfl rfl (Yl.assign rfl rfl) ?_
                                      refine RW.nil ?_
                                      change CW _ _ _ _ _ _
                                      refine CW.ret ?_
                                      change FinQ _ _ _ _ _ _
                                      refine fin1 (.inr rfl) rfl rfl ?_
                                      exact ⟨_, rfl, bval (by first | rfl | exact decide_eq_true (by omega) | exact decide_eq_true (by assumption)), hB34⟩)
                                  ·
                                    intro hg27
                                    have hq31 := of_decide_eq_false hg27
                                    first
                                    | (exfalso; omega)
                                    | (
                                      refine CW.skip ?_
                                      change CW _ _ _ _ _ _
                                      refine CW.seq ?_
                                      rcases Bool.eq_false_or_eq_true (B) with hg28 | hg28
                                      ·
                                        have hwe := hweq hg28
                                        first
                                        | (exfalso; omega)
                                        | (
                                          refine CW.draw 12 rfl (Kp []) (by kernel_rfl) ?_
                                          intro w35 H30
                                          have hB35 := Bl.step hB34 H30
                                          have hK91 := Blk.below hK88 H30
                                          have hK92 := Blk.below hK89 H30
                                          have hK93 := Blk.below hK90 H30
                                          have hR55 := hR53.mono (kept_below H30 (by omega))
                                          have hR56 := hR54.mono (kept_below H30 (by omega))
                                          have hz31 := H30.size
                                          have hS17 := Kp.refl [] w35
                                          refine RH.take 0 rfl (by kernel_rfl) rfl rfl rfl hS17 (fun W46 hW46 => Yl.move rfl rfl) ?_
                                          refine RH.take 1 rfl (by kernel_rfl) rfl rfl rfl hS17 (fun W47 hW47 => Yl.eqb (Yl.not rfl rfl) (congrArg (fun b => !b) hg28)) ?_
                                          refine RH.take 2 rfl (by kernel_rfl) rfl rfl rfl hS17 (fun W48 hW48 => Yl.move rfl rfl) ?_
                                          refine RH.take 3 rfl (by kernel_rfl) rfl rfl rfl hS17 (fun W49 hW49 => Yl.loadAgg (cs := [.slice ps2 (((repR c (n + 1)).1).length) cs2]) rfl rfl many24 (Blk.cells (Kp.blk hW49 hK93 (by simp)))) ?_
                                          refine RH.take 5 rfl (by kernel_rfl) rfl rfl rfl hS17 (fun W51 hW51 => Yl.move rfl rfl) ?_
                                          refine RH.take 6 rfl (by kernel_rfl) rfl rfl rfl hS17 (fun W53 hW53 => Yl.loadAgg (cs := [.slice ps2 (((repR c (n + 1)).1).length) cs2]) rfl rfl many24 (Blk.cells (Kp.blk hW53 hK93 (by simp)))) ?_
                                          refine RH.one 4 (by kernel_rfl) ?_
                                          refine RO.fn rfl rfl rfl rfl (Yc.func #[.agg #[.slice ps2 (((repR c (n + 1)).1).length) cs2]] rfl ok24 (args1 rfl)) (c24 (hR56.wide (Nat.zero_le _) (by omega)) (validB_chanT hv_q)) ?_
                                          rintro _ w36 ⟨rfl, H31⟩
                                          have hS18 := Kp.step hS17 H31
                                          have hB36 := Bl.step hB35 H31
                                          have hK94 := Blk.below hK91 H31
                                          have hK95 := Blk.below hK92 H31
                                          have hK96 := Blk.below hK93 H31
                                          have hR57 := hR55.mono (kept_below H31 (by omega))
                                          have hR58 := hR56.mono (kept_below H31 (by omega))
                                          have hz32 := H31.size
                                          refine ⟨hS18, ?_⟩
                                          refine RH.one 7 (by kernel_rfl) ?_
                                          refine RO.fn rfl rfl rfl rfl (Yc.func #[.agg #[.slice ps2 (((repR c (n + 1)).1).length) cs2]] rfl ok17 (args1 rfl)) (c17 (hR58.wide (Nat.zero_le _) (by omega)) (validB_chanT hv_q)) ?_
                                          rintro _ w37 ⟨rfl, H32⟩
                                          have hS19 := Kp.step hS18 H32
                                          have hB37 := Bl.step hB36 H32
                                          have hK97 := Blk.below hK94 H32
                                          have hK98 := Blk.below hK95 H32
                                          have hK99 := Blk.below hK96 H32
                                          have hR59 := hR57.mono (kept_below H32 (by omega))
                                          have hR60 := hR58.mono (kept_below H32 (by omega))
                                          have hz33 := H32.size
                                          refine ⟨hS19, ?_⟩
                                          refine RH.take 8 rfl (by kernel_rfl) rfl rfl rfl hS19 (fun W56 hW56 => Yl.mul (m := D) (n := totG ((repR c (n + 1)).1)) rfl rfl rfl (by omega)) ?_
                                          refine RH.take 9 rfl (by kernel_rfl) rfl rfl rfl hS19 (fun W57 hW57 => Yl.eql rfl rfl rfl) ?_
                                          refine RH.take 10 rfl (by kernel_rfl) rfl rfl rfl hS19 (fun W58 hW58 => Yl.pickF rfl rfl rfl) ?_
                                          refine RH.take 11 rfl (by kernel_rfl) rfl rfl rfl hS19 (fun W59 hW59 => Yl.assign rfl rfl) ?_
                                          refine RH.done (by kernel_rfl) ?_
                                          change CW _ _ _ _ _ _
                                          refine CW.ret ?_
                                          change FinQ _ _ _ _ _ _
                                          refine fin1 (.inr rfl) rfl rfl ?_
                                          exact ⟨_, rfl, bval (by first | rfl | exact decide_eq_true (by omega) | exact decide_eq_true (by assumption)), hB37⟩)
                                      ·
                                        first
                                        | (exfalso; omega)
                                        | (
                                          refine CW.draw 12 rfl (Kp []) (by kernel_rfl) ?_
                                          intro w38 H33
                                          have hB38 := Bl.step hB34 H33
                                          have hK100 := Blk.below hK88 H33
                                          have hK101 := Blk.below hK89 H33
                                          have hK102 := Blk.below hK90 H33
                                          have hR61 := hR53.mono (kept_below H33 (by omega))
                                          have hR62 := hR54.mono (kept_below H33 (by omega))
                                          have hz34 := H33.size
                                          have hS20 := Kp.refl [] w38
                                          refine RH.take 0 rfl (by kernel_rfl) rfl rfl rfl hS20 (fun W60 hW60 => Yl.move rfl rfl) ?_
                                          refine RH.take 1 rfl (by kernel_rfl) rfl rfl rfl hS20 (fun W61 hW61 => Yl.eqb (Yl.not rfl rfl) (congrArg (fun b => !b) hg28)) ?_
                                          refine RH.take 2 rfl (by kernel_rfl) rfl rfl rfl hS20 (fun W62 hW62 => Yl.move rfl rfl) ?_
                                          refine RH.pass 3 rfl (by kernel_rfl) rfl rfl rfl hS20 ?_
                                          refine RH.pass 4 rfl (by kernel_rfl) rfl rfl rfl hS20 ?_
                                          refine RH.pass 5 rfl (by kernel_rfl) rfl rfl rfl hS20 ?_
                                          refine RH.pass 6 rfl (by kernel_rfl) rfl rfl rfl hS20 ?_
                                          refine RH.pass 7 rfl (by kernel_rfl) rfl rfl rfl hS20 ?_
                                          refine RH.pass 8 rfl (by kernel_rfl) rfl rfl rfl hS20 ?_
                                          refine RH.pass 9 rfl (by kernel_rfl) rfl rfl rfl hS20 ?_
                                          refine RH.take 10 rfl (by kernel_rfl) rfl rfl rfl hS20 (fun W63 hW63 => Yl.pickT rfl rfl rfl) ?_
                                          refine RH.take 11 rfl (by kernel_rfl) rfl rfl rfl hS20 (fun W64 hW64 => Yl.assign rfl rfl) ?_
                                          refine RH.done (by kernel_rfl) ?_
                                          change CW _ _ _ _ _ _
                                          refine CW.ret ?_
                                          change FinQ _ _ _ _ _ _
                                          refine fin1 (.inr rfl) rfl rfl ?_
                                          exact ⟨_, rfl, bval (by first | rfl | exact decide_eq_true (by omega) | exact decide_eq_true (by assumption)), hB38⟩))))))
                  ·
                    have hq8 := of_decide_eq_false hg6
                    first
                    | (exfalso; omega)
                    | (
                      refine CW.region ?_
                      refine RW.yl rfl rfl rfl (Yl.move rfl rfl) ?_
                      refine RW.yl rfl rfl rfl (Yl.eqb (Yl.neq rfl rfl rfl) (congrArg (fun b => !b) hg6)) ?_
                      refine RW.yl rfl rfl rfl (Yl.move rfl rfl) ?_
                      refine RW.skip rfl rfl rfl ?_
                      refine RW.skip rfl rfl rfl ?_
                      refine RW.yl rfl rfl rfl (Yl.pickT rfl rfl rfl) ?_
                      refine RW.nil ?_
                      change CW _ _ _ _ _ _
                      refine CW.condT rfl ?_
                      refine CW.seq ?_
                      refine CW.region ?_
                      refine RW.yl rfl rfl rfl (Yl.assign rfl rfl) ?_
                      refine RW.nil ?_
                      change CW _ _ _ _ _ _
                      refine CW.ret ?_
                      change FinQ _ _ _ _ _ _
                      refine fin1 (.inr rfl) rfl rfl ?_
                      exact ⟨_, rfl, bval (by first | rfl | exact decide_eq_true (by omega) | exact decide_eq_true (by assumption)), hB12⟩))))
      ·
        first
        | (exfalso; omega)
        | (
          refine CW.region ?_
          refine RW.yl rfl rfl rfl (Yl.loadAgg (cs := [.slice p c.length cc]) rfl rfl many24 (Blk.cells hK1)) ?_
          refine RW.fn rfl rfl rfl (Yc.func #[.agg #[.slice p c.length cc], .int .i64 8] rfl ok13 (args2 rfl rfl)) (c13 ((hv.mono (kept_from hB0 hB2 (Nat.le_refl _))).wide (Nat.zero_le _) (by omega))) ?_
          rintro _ w39 ⟨rfl, H34⟩
          have hB39 := Bl.step hB2 H34
          have hK103 := Blk.below hK1 H34
          have hz35 := H34.size
          rw [hg1]
          refine RW.yl rfl rfl rfl (Yl.not rfl rfl) ?_
          refine RW.yl rfl rfl rfl (Yl.move rfl rfl) ?_
          refine RW.yl rfl rfl rfl (Yl.loadAgg (cs := [.slice p c.length cc]) rfl rfl many24 (Blk.cells hK103)) ?_
          refine RW.fn rfl rfl rfl (Yc.func #[.agg #[.slice p c.length cc]] rfl ok15 (args1 rfl)) (c15 ((hv.mono (kept_from hB0 hB39 (Nat.le_refl _))).wide (Nat.zero_le _) (by omega))) ?_
          rintro _ w40 ⟨rfl, H35⟩
          have hB40 := Bl.step hB39 H35
          have hK104 := Blk.below hK103 H35
          have hz36 := H35.size
          rw [hg2]
          refine RW.yl rfl rfl rfl (Yl.not rfl rfl) ?_
          refine RW.yl rfl rfl rfl (Yl.pickF rfl rfl rfl) ?_
          refine RW.yl rfl rfl rfl (Yl.move rfl rfl) ?_
          refine RW.skip rfl rfl rfl ?_
          refine RW.skip rfl rfl rfl ?_
          refine RW.yl rfl rfl rfl (Yl.pickT rfl rfl rfl) ?_
          refine RW.yl rfl rfl rfl (Yl.move rfl rfl) ?_
          refine RW.skip rfl rfl rfl ?_
          refine RW.skip rfl rfl rfl ?_
          refine RW.yl rfl rfl rfl (Yl.pickT rfl rfl rfl) ?_
          refine RW.nil ?_
          change CW _ _ _ _ _ _
          refine CW.condT rfl ?_
          refine CW.seq ?_
          refine CW.region ?_
          refine RW.yl rfl rfl rfl (Yl.assign rfl rfl) ?_
          refine RW.nil ?_
          change CW _ _ _ _ _ _
          refine CW.ret ?_
          change FinQ _ _ _ _ _ _
          refine fin1 (.inr rfl) rfl rfl ?_
          exact ⟨_, rfl, bval (by first | rfl | exact decide_eq_true (by omega) | exact decide_eq_true (by assumption)), hB40⟩))
  ·
    first
    | (exfalso; omega)
    | (
      refine CW.region ?_
      refine RW.yl rfl rfl rfl (Yl.loadAgg (cs := [.slice p c.length cc]) rfl rfl many24 (Blk.cells hK1)) ?_
      refine RW.fn rfl rfl rfl (Yc.func #[.agg #[.slice p c.length cc], .int .i64 8] rfl ok13 (args2 rfl rfl)) (c13 ((hv.mono (kept_from hB0 hB2 (Nat.le_refl _))).wide (Nat.zero_le _) (by omega))) ?_
      rintro _ w41 ⟨rfl, H36⟩
      have hB41 := Bl.step hB2 H36
      have hK105 := Blk.below hK1 H36
      have hz37 := H36.size
      rw [hg1]
      refine RW.yl rfl rfl rfl (Yl.not rfl rfl) ?_
      refine RW.yl rfl rfl rfl (Yl.move rfl rfl) ?_
      refine RW.skip rfl rfl rfl ?_
      refine RW.skip rfl rfl rfl ?_
      refine RW.skip rfl rfl rfl ?_
      refine RW.yl rfl rfl rfl (Yl.pickT rfl rfl rfl) ?_
      refine RW.yl rfl rfl rfl (Yl.move rfl rfl) ?_
      refine RW.skip rfl rfl rfl ?_
      refine RW.skip rfl rfl rfl ?_
      refine RW.yl rfl rfl rfl (Yl.pickT rfl rfl rfl) ?_
      refine RW.yl rfl rfl rfl (Yl.move rfl rfl) ?_
      refine RW.skip rfl rfl rfl ?_
      refine RW.skip rfl rfl rfl ?_
      refine RW.yl rfl rfl rfl (Yl.pickT rfl rfl rfl) ?_
      refine RW.nil ?_
      change CW _ _ _ _ _ _
      refine CW.condT rfl ?_
      refine CW.seq ?_
      refine CW.region ?_
      refine RW.yl rfl rfl rfl (Yl.assign rfl rfl) ?_
      refine RW.nil ?_
      change CW _ _ _ _ _ _
      refine CW.ret ?_
      change FinQ _ _ _ _ _ _
      refine fin1 (.inr rfl) rfl rfl ?_
      exact ⟨_, rfl, bval (by first | rfl | exact decide_eq_true (by omega) | exact decide_eq_true (by assumption)), hB41⟩)

end Go.Proofs.Ytodeffidnipelaa
