/- The compositions of the program. -/
import Derived.Test.YtodeffidnipelaaT6
namespace Go.Proofs.Ytodeffidnipelaa
open Go.RowKit Go.Ev

theorem pairG_zero {c d : List (List Int)} (h : pairG c d = 0) : validB c = true ∧ validB d = true := by
  unfold pairG at h
  split at h
  · rename_i h'
    simpa using h'
  · omega
theorem totG_valid {m : List (List Int)} (h : validB m = true) : totG m = sumGo 0 m[0]! := if_pos h
theorem totG_bounds {m : List (List Int)} (h : validB m = true) : 0 ≤ totG m ∧ totG m ≤ 1048576 ∧ 1 ≤ totG m := by
  rw [totG_valid h]
  have := validB_chan h
  exact ⟨by have := this.t1; omega, this.t2, this.t1⟩
theorem weightsB_yes {i j : Int} (h : weightsB i j = true) : 1 ≤ i ∧ 1 ≤ j ∧ i ≤ 100 ∧ j ≤ 100 := of_decide_eq_true h

/-- what Cascade returns -/
def cascR (c d : List (List Int)) : List (List Int) × Int :=
  if pairG c d = 0 then if (((c[0]!).length : Nat) : Int) = ((d.length : Nat) : Int) then if limG ((d[0]!).length : Nat) (totG c * totG d) = 0 then
    (tab c.length (d[0]!).length fun x y => sumTo d.length fun k => ((c[x]!)[k]!) * ((d[k]!)[y]!), 0) else ([], limG ((d[0]!).length : Nat) (totG c * totG d)) else ([], 2) else ([], pairG c d)
/-- what Parallel returns -/
def parR (c d : List (List Int)) : List (List Int) × Int :=
  if pairG c d = 0 then if ((c.length : Nat) : Int) = ((d.length : Nat) : Int) then if limG (((c[0]!).length * (d[0]!).length : Nat) : Int) (totG c * totG d) = 0 then
    (tab c.length ((c[0]!).length * (d[0]!).length) fun x y => ((c[x]!)[y / (d[0]!).length]!) * ((d[x]!)[y % (d[0]!).length]!), 0) else ([], limG (((c[0]!).length * (d[0]!).length : Nat) : Int) (totG c * totG d)) else ([], 2) else ([], pairG c d)
/-- what Hidden returns -/
def hidR (c d : List (List Int)) (i j : Int) : List (List Int) × Int :=
  if pairG c d = 0 then if ((c.length : Nat) : Int) = ((d.length : Nat) : Int) then if (((c[0]!).length : Nat) : Int) = (((d[0]!).length : Nat) : Int) then if weightsB i j = true then if limG ((c[0]!).length : Nat) (((i + j) * totG c) * totG d) = 0 then
    (tab c.length (c[0]!).length fun x y => (i * totG d) * ((c[x]!)[y]!) + (j * totG c) * ((d[x]!)[y]!), 0) else ([], limG ((c[0]!).length : Nat) (((i + j) * totG c) * totG d)) else ([], 3) else ([], 2) else ([], 2) else ([], pairG c d)
/-- what Visible returns -/
def visR (c d : List (List Int)) (i j : Int) : List (List Int) × Int :=
  if pairG c d = 0 then if ((c.length : Nat) : Int) = ((d.length : Nat) : Int) then if weightsB i j = true then if limG (((c[0]!).length + (d[0]!).length : Nat) : Int) (((i + j) * totG c) * totG d) = 0 then
    (tab c.length ((c[0]!).length + (d[0]!).length) fun x y => if y < (c[0]!).length then (((c[x]!)[y]!) * i) * totG d else (((d[x]!)[y - (c[0]!).length]!) * j) * totG c, 0) else ([], limG (((c[0]!).length + (d[0]!).length : Nat) : Int) (((i + j) * totG c) * totG d)) else ([], 3) else ([], 2) else ([], pairG c d)

theorem c14 {w : World} {v u : Value} {c d : List (List Int)} (hv : RRows 0 w.heap.size w v c) (hu : RRows 0 w.heap.size w u d) :
    Calls Try.prog 14 #[.agg #[v], .agg #[u]] w (Ret fun r w' => ∃ s, r = .tuple #[.agg #[s], .int .i64 (cascR c d).2] ∧ RRows w.heap.size w'.heap.size w' s (cascR c d).1 ∧ Below w.heap.size w w') := by
  obtain ⟨p, cc, rfl, hl⟩ := hv.form
  obtain ⟨p2, cd, rfl, hl2⟩ := hu.form
  have hB0 : Below w.heap.size w w := Below.refl _ _
  refine Ev.calls (l := [.agg #[.slice p c.length cc], .agg #[.slice p2 d.length cd]]) Try.func14 rfl rfl rfl ?_
  change CW _ _ _ _ [(0, .agg #[.slice p c.length cc]), (1, .agg #[.slice p2 d.length cd])] _
  refine CW.seq ?_
  refine CW.region ?_
  refine RW.newP (cs := #[.slice p c.length cc]) (T := 24) rfl rfl rfl (Yv.box (v := .agg #[.slice p c.length cc]) rfl rfl) ?_
  intro b1 w1 N1
  have lo_b1 : w.heap.size ≤ b1 := by have := hB0.size; have := N1.num; omega
  have hn_b1 := N1.num
  have hs_b1 := N1.size
  have hB1 := Bl.step hB0 N1.below
  refine RW.newP (cs := #[.slice p2 d.length cd]) (T := 24) rfl rfl rfl (Yv.box (v := .agg #[.slice p2 d.length cd]) rfl rfl) ?_
  intro b2 w2 N2
  have ne1 := New.ne N2 N1.blk
  have lo_b2 : w.heap.size ≤ b2 := by have := hB1.size; have := N2.num; omega
  have hn_b2 := N2.num
  have hs_b2 := N2.size
  have hB2 := Bl.step hB1 N2.below
  have hK1 := Blk.below N1.blk N2.below
  refine RW.newP (cs := #[.slice none 0 0]) (T := 24) rfl rfl rfl (Yv.alloc (z := .agg #[.slice none 0 0]) rfl zero24) ?_
  intro b3 w3 N3
  have ne2 := New.ne N3 hK1
  have ne3 := New.ne N3 N2.blk
  have lo_b3 : w.heap.size ≤ b3 := by have := hB2.size; have := N3.num; omega
  have hn_b3 := N3.num
  have hs_b3 := N3.size
  have hB3 := Bl.step hB2 N3.below
  have hK2 := Blk.below hK1 N3.below
  have hK3 := Blk.below N2.blk N3.below
  refine RW.yl rfl rfl rfl (Yl.assign rfl rfl) ?_
  refine RW.nil ?_
  change CW _ _ _ _ _ _
  refine CW.seq ?_
  refine CW.seq ?_
  refine CW.region ?_
  refine RW.yl rfl rfl rfl (Yl.loadAgg (cs := [.slice p c.length cc]) rfl rfl many24 (Blk.cells hK2)) ?_
  refine RW.yl rfl rfl rfl (Yl.loadAgg (cs := [.slice p2 d.length cd]) rfl rfl many24 (Blk.cells hK3)) ?_
  refine RW.fn rfl rfl rfl (Yc.func #[.agg #[.slice p c.length cc], .agg #[.slice p2 d.length cd]] rfl ok39 (args2 rfl rfl)) (c39 ((hv.mono (kept_from hB0 hB3 (Nat.le_refl _))).wide (Nat.zero_le _) (by omega)) ((hu.mono (kept_from hB0 hB3 (Nat.le_refl _))).wide (Nat.zero_le _) (by omega))) ?_
  rintro _ w4 ⟨rfl, H1⟩
  have hB4 := Bl.step hB3 H1
  have hK4 := Blk.below hK2 H1
  have hK5 := Blk.below hK3 H1
  have hK6 := Blk.below N3.blk H1
  have hz1 := H1.size
  refine RW.yl rfl rfl rfl (Yl.assign rfl rfl) ?_
  refine RW.nil ?_
  change CW _ _ _ _ _ _
  refine CW.seq ?_
  refine CW.region ?_
  refine RW.yl rfl rfl rfl (Yl.move rfl rfl) ?_
  refine RW.yl rfl rfl rfl (Yl.neq rfl rfl rfl) ?_
  refine RW.nil ?_
  change CW _ _ _ _ _ _
  refine CW.cond rfl ?_ ?_
  ·
    intro hg1
    have hg2 : decide ((pairG c d) = 0) = false := not_t hg1
    have hq2 := of_decide_eq_false hg2
    first
    | (exfalso; omega)
    | (
      refine CW.seq ?_
      refine CW.region ?_
      refine RW.yl rfl rfl rfl (Yl.build0 rfl rfl built24) ?_
      refine RW.yl rfl rfl rfl (Yl.move rfl rfl) ?_
      refine RW.stoAll (cs' := #[.slice none 0 0]) rfl rfl hK6 (Yu.storeAll rfl rfl rfl sz24 hK6 rfl (by simp [Value.oneCell'])) ?_
      intro w5 H2
      have hB5 := Bl.sto hB4 H2 lo_b3
      have hK7 := Blk.sto hK4 H2 ne2
      have hK8 := Blk.sto hK5 H2 ne3
      have hK9 := H2.blk
      have hz2 := H2.size
      refine RW.yl rfl rfl rfl (Yl.assign rfl rfl) ?_
      refine RW.nil ?_
      change CW _ _ _ _ _ _
      refine CW.ret ?_
      change FinQ _ _ _ _ _ _
      refine finC1 (.inr rfl) rfl rfl (run_loadVar_many (cs := [.slice none 0 0]) many24 (Blk.cells hK9)) rfl ?_
      have hcr : cascR c d = ([], pairG c d) := by unfold cascR; first | (rw [if_neg (by first | assumption | omega)]; done) | (rw [if_pos (by first | assumption | omega), if_neg (by first | assumption | omega)]; done) | (rw [if_pos (by first | assumption | omega), if_pos (by first | assumption | omega), if_neg (by first | assumption | omega)]; done) | (rw [if_pos (by first | assumption | omega), if_pos (by first | assumption | omega), if_pos (by first | assumption | omega)]; done)
      exact ⟨_, rfl, _, by rw [hcr], by rw [hcr]; exact Sl.nil _ _ _ _, hB5⟩)
  ·
    intro hg3
    have hg4 : decide ((pairG c d) = 0) = true := not_f hg3
    have hq4 := of_decide_eq_true hg4
    have hvv := pairG_zero (of_decide_eq_true hg4)
    have hcc := validB_chan hvv.1
    have hcd := validB_chan hvv.2
    have htc := totG_bounds hvv.1
    have htd := totG_bounds hvv.2
    have hmm := mul_small ⟨htc.1, htc.2.1⟩ ⟨htd.1, htd.2.1⟩
    have q1 := hcc.r1
    have q2 := hcc.r2
    have q3 := hcc.c1
    have q4 := hcc.c2
    have q5 := hcd.r1
    have q6 := hcd.r2
    have q7 := hcd.c1
    have q8 := hcd.c2
    have q9 := Nat.mul_le_mul q4 q8
    first
    | (exfalso; omega)
    | (
      refine CW.skip ?_
      change CW _ _ _ _ _ _
      refine CW.seq ?_
      refine CW.seq ?_
      refine CW.draw 6 rfl (Kp []) (by kernel_rfl) ?_
      intro w6 H3
      have hB6 := Bl.step hB4 H3
      have hK10 := Blk.below hK4 H3
      have hK11 := Blk.below hK5 H3
      have hK12 := Blk.below hK6 H3
      have hz3 := H3.size
      have hS1 := Kp.refl [] w6
      refine RH.take 0 rfl (by kernel_rfl) rfl rfl rfl hS1 (fun W1 hW1 => Yl.loadAgg (cs := [.slice p c.length cc]) rfl rfl many24 (Blk.cells (Kp.blk hW1 hK10 (by simp)))) ?_
      refine RH.take 2 rfl (by kernel_rfl) rfl rfl rfl hS1 (fun W3 hW3 => Yl.fieldAddr rfl rfl Try.underlying24 rfl sz22) ?_
      refine RH.take 3 rfl (by kernel_rfl) rfl rfl rfl hS1 (fun W5 hW5 => Yl.load rfl rfl one22 (Blk.cell (Kp.blk hW5 hK11 (by simp)) rfl)) ?_
      refine RH.take 4 rfl (by kernel_rfl) rfl rfl rfl hS1 (fun W7 hW7 => Yl.len rfl rfl Try.underlying22) ?_
      refine RH.one 1 (by kernel_rfl) ?_
      refine RO.fn rfl rfl rfl rfl (Yc.func #[.agg #[.slice p c.length cc]] rfl ok40 (args1 rfl)) (c40 ((hv.mono (kept_from hB0 hB6 (Nat.le_refl _))).wide (Nat.zero_le _) (by omega)) (by omega)) ?_
      rintro _ w7 ⟨rfl, H4⟩
      have hS2 := Kp.step hS1 H4
      have hB7 := Bl.step hB6 H4
      have hK13 := Blk.below hK10 H4
      have hK14 := Blk.below hK11 H4
      have hK15 := Blk.below hK12 H4
      have hz4 := H4.size
      refine ⟨hS2, ?_⟩
      refine RH.take 5 rfl (by kernel_rfl) rfl rfl rfl hS2 (fun W9 hW9 => Yl.neq rfl rfl rfl) ?_
      refine RH.done (by kernel_rfl) ?_
      change CW _ _ _ _ _ _
      refine CW.cond rfl ?_ ?_
      ·
        intro hg5
        have hg6 : decide ((((c[0]!).length : Nat) : Int) = ((d.length : Nat) : Int)) = false := not_t hg5
        have hq6 := of_decide_eq_false hg6
        first
        | (exfalso; omega)
        | (
          refine CW.seq ?_
          refine CW.region ?_
          refine RW.yl rfl rfl rfl (Yl.build0 rfl rfl built24) ?_
          refine RW.stoAll (cs' := #[.slice none 0 0]) rfl rfl hK15 (Yu.storeAll rfl rfl rfl sz24 hK15 rfl (by simp [Value.oneCell'])) ?_
          intro w8 H5
          have hB8 := Bl.sto hB7 H5 lo_b3
          have hK16 := Blk.sto hK13 H5 ne2
          have hK17 := Blk.sto hK14 H5 ne3
          have hK18 := H5.blk
          have hz5 := H5.size
          refine RW.yl rfl rfl rfl (Yl.assign rfl rfl) ?_
          refine RW.nil ?_
          change CW _ _ _ _ _ _
          refine CW.ret ?_
          change FinQ _ _ _ _ _ _
          refine finC1 (.inr rfl) rfl rfl (run_loadVar_many (cs := [.slice none 0 0]) many24 (Blk.cells hK18)) rfl ?_
          have hcr : cascR c d = ([], 2) := by unfold cascR; first | (rw [if_neg (by first | assumption | omega)]; done) | (rw [if_pos (by first | assumption | omega), if_neg (by first | assumption | omega)]; done) | (rw [if_pos (by first | assumption | omega), if_pos (by first | assumption | omega), if_neg (by first | assumption | omega)]; done) | (rw [if_pos (by first | assumption | omega), if_pos (by first | assumption | omega), if_pos (by first | assumption | omega)]; done)
          exact ⟨_, rfl, _, by rw [hcr], by rw [hcr]; exact Sl.nil _ _ _ _, hB8⟩)
      ·
        intro hg7
        have hg8 : decide ((((c[0]!).length : Nat) : Int) = ((d.length : Nat) : Int)) = true := not_f hg7
        have hq8 := of_decide_eq_true hg8
        first
        | (exfalso; omega)
        | (
          refine CW.skip ?_
          change CW _ _ _ _ _ _
          refine CW.seq ?_
          refine CW.seq ?_
          refine CW.draw 9 rfl (Kp []) (by kernel_rfl) ?_
          intro w9 H6
          have hB9 := Bl.step hB7 H6
          have hK19 := Blk.below hK13 H6
          have hK20 := Blk.below hK14 H6
          have hK21 := Blk.below hK15 H6
          have hz6 := H6.size
          have hS3 := Kp.refl [] w9
          refine RH.take 0 rfl (by kernel_rfl) rfl rfl rfl hS3 (fun W10 hW10 => Yl.loadAgg (cs := [.slice p2 d.length cd]) rfl rfl many24 (Blk.cells (Kp.blk hW10 hK20 (by simp)))) ?_
          refine RH.take 2 rfl (by kernel_rfl) rfl rfl rfl hS3 (fun W12 hW12 => Yl.loadAgg (cs := [.slice p c.length cc]) rfl rfl many24 (Blk.cells (Kp.blk hW12 hK19 (by simp)))) ?_
          refine RH.take 4 rfl (by kernel_rfl) rfl rfl rfl hS3 (fun W14 hW14 => Yl.loadAgg (cs := [.slice p2 d.length cd]) rfl rfl many24 (Blk.cells (Kp.blk hW14 hK20 (by simp)))) ?_
          refine RH.one 1 (by kernel_rfl) ?_
          refine RO.fn rfl rfl rfl rfl (Yc.func #[.agg #[.slice p2 d.length cd]] rfl ok40 (args1 rfl)) (c40 ((hu.mono (kept_from hB0 hB9 (Nat.le_refl _))).wide (Nat.zero_le _) (by omega)) (by omega)) ?_
          rintro _ w10 ⟨rfl, H7⟩
          have hS4 := Kp.step hS3 H7
          have hB10 := Bl.step hB9 H7
          have hK22 := Blk.below hK19 H7
          have hK23 := Blk.below hK20 H7
          have hK24 := Blk.below hK21 H7
          have hz7 := H7.size
          refine ⟨hS4, ?_⟩
          refine RH.one 3 (by kernel_rfl) ?_
          refine RO.fn rfl rfl rfl rfl (Yc.func #[.agg #[.slice p c.length cc]] rfl ok42 (args1 rfl)) (c42 ((hv.mono (kept_from hB0 hB10 (Nat.le_refl _))).wide (Nat.zero_le _) (by omega))) ?_
          rintro _ w11 ⟨rfl, H8⟩
          have hS5 := Kp.step hS4 H8
          have hB11 := Bl.step hB10 H8
          have hK25 := Blk.below hK22 H8
          have hK26 := Blk.below hK23 H8
          have hK27 := Blk.below hK24 H8
          have hz8 := H8.size
          refine ⟨hS5, ?_⟩
          refine RH.one 5 (by kernel_rfl) ?_
          refine RO.fn rfl rfl rfl rfl (Yc.func #[.agg #[.slice p2 d.length cd]] rfl ok42 (args1 rfl)) (c42 ((hu.mono (kept_from hB0 hB11 (Nat.le_refl _))).wide (Nat.zero_le _) (by omega))) ?_
          rintro _ w12 ⟨rfl, H9⟩
          have hS6 := Kp.step hS5 H9
          have hB12 := Bl.step hB11 H9
          have hK28 := Blk.below hK25 H9
          have hK29 := Blk.below hK26 H9
          have hK30 := Blk.below hK27 H9
          have hz9 := H9.size
          refine ⟨hS6, ?_⟩
          refine RH.take 6 rfl (by kernel_rfl) rfl rfl rfl hS6 (fun W18 hW18 => Yl.mul (m := totG c) (n := totG d) rfl rfl rfl (by omega)) ?_
          refine RH.one 7 (by kernel_rfl) ?_
          refine RO.fn rfl rfl rfl rfl (Yc.func #[.int .i64 (((d[0]!).length : Nat) : Int), .int .i64 ((totG c) * (totG d))] rfl ok41 (args2 rfl rfl)) (c41) ?_
          rintro _ w13 ⟨rfl, H10⟩
          have hS7 := Kp.step hS6 H10
          have hB13 := Bl.step hB12 H10
          have hK31 := Blk.below hK28 H10
          have hK32 := Blk.below hK29 H10
          have hK33 := Blk.below hK30 H10
          have hz10 := H10.size
          refine ⟨hS7, ?_⟩
          refine RH.take 8 rfl (by kernel_rfl) rfl rfl rfl hS7 (fun W20 hW20 => Yl.assign rfl rfl) ?_
          refine RH.done (by kernel_rfl) ?_
          change CW _ _ _ _ _ _
          refine CW.seq ?_
          refine CW.region ?_
          refine RW.yl rfl rfl rfl (Yl.move rfl rfl) ?_
          refine RW.yl rfl rfl rfl (Yl.neq rfl rfl rfl) ?_
          refine RW.nil ?_
          change CW _ _ _ _ _ _
          refine CW.cond rfl ?_ ?_
          ·
            intro hg9
            have hg10 : decide ((limG (((d[0]!).length : Nat) : Int) ((totG c) * (totG d))) = 0) = false := not_t hg9
            have hq10 := of_decide_eq_false hg10
            first
            | (exfalso; omega)
            | (
              refine CW.seq ?_
              refine CW.region ?_
              refine RW.yl rfl rfl rfl (Yl.build0 rfl rfl built24) ?_
              refine RW.yl rfl rfl rfl (Yl.move rfl rfl) ?_
              refine RW.stoAll (cs' := #[.slice none 0 0]) rfl rfl hK33 (Yu.storeAll rfl rfl rfl sz24 hK33 rfl (by simp [Value.oneCell'])) ?_
              intro w14 H11
              have hB14 := Bl.sto hB13 H11 lo_b3
              have hK34 := Blk.sto hK31 H11 ne2
              have hK35 := Blk.sto hK32 H11 ne3
              have hK36 := H11.blk
              have hz11 := H11.size
              refine RW.yl rfl rfl rfl (Yl.assign rfl rfl) ?_
              refine RW.nil ?_
              change CW _ _ _ _ _ _
              refine CW.ret ?_
              change FinQ _ _ _ _ _ _
              refine finC1 (.inr rfl) rfl rfl (run_loadVar_many (cs := [.slice none 0 0]) many24 (Blk.cells hK36)) rfl ?_
              have hcr : cascR c d = ([], limG (((d[0]!).length : Nat) : Int) ((totG c) * (totG d))) := by unfold cascR; first | (rw [if_neg (by first | assumption | omega)]; done) | (rw [if_pos (by first | assumption | omega), if_neg (by first | assumption | omega)]; done) | (rw [if_pos (by first | assumption | omega), if_pos (by first | assumption | omega), if_neg (by first | assumption | omega)]; done) | (rw [if_pos (by first | assumption | omega), if_pos (by first | assumption | omega), if_pos (by first | assumption | omega)]; done)
              exact ⟨_, rfl, _, by rw [hcr], by rw [hcr]; exact Sl.nil _ _ _ _, hB14⟩)
          ·
            intro hg11
            have hg12 : decide ((limG (((d[0]!).length : Nat) : Int) ((totG c) * (totG d))) = 0) = true := not_f hg11
            have hq12 := of_decide_eq_true hg12
            first
            | (exfalso; omega)
            | (
              refine CW.skip ?_
              change CW _ _ _ _ _ _
              refine CW.seq ?_
              refine CW.draw 9 rfl (Kp [b3]) (by kernel_rfl) ?_
              intro w15 H12
              have hB15 := Bl.step hB13 H12
              have hK37 := Blk.below hK31 H12
              have hK38 := Blk.below hK32 H12
              have hK39 := Blk.below hK33 H12
              have hz12 := H12.size
              have hS8 := Kp.refl [b3] w15
              refine RH.take 0 rfl (by kernel_rfl) rfl rfl rfl hS8 (fun W21 hW21 => Yl.fieldAddr rfl rfl Try.underlying24 rfl sz22) ?_
              refine RH.take 1 rfl (by kernel_rfl) rfl rfl rfl hS8 (fun W22 hW22 => Yl.load rfl rfl one22 (Blk.cell (Kp.blk hW22 hK37 (by simp only [List.mem_cons, List.not_mem_nil, or_false]; omega)) rfl)) ?_
              refine RH.take 2 rfl (by kernel_rfl) rfl rfl rfl hS8 (fun W23 hW23 => Yl.len rfl rfl Try.underlying22) ?_
              refine RH.take 3 rfl (by kernel_rfl) rfl rfl rfl hS8 (fun W24 hW24 => Yl.loadAgg (cs := [.slice p2 d.length cd]) rfl rfl many24 (Blk.cells (Kp.blk hW24 hK38 (by simp only [List.mem_cons, List.not_mem_nil, or_false]; omega)))) ?_
              refine RH.take 5 rfl (by kernel_rfl) rfl rfl rfl hS8 (fun W26 hW26 => Yl.func #[.pointer (some ⟨b1, 0, none⟩), .pointer (some ⟨b2, 0, none⟩)] rfl rfl (args2 rfl rfl)) ?_
              refine RH.one 4 (by kernel_rfl) ?_
              refine RO.fn rfl rfl rfl rfl (Yc.func #[.agg #[.slice p2 d.length cd]] rfl ok40 (args1 rfl)) (c40 ((hu.mono (kept_from hB0 hB15 (Nat.le_refl _))).wide (Nat.zero_le _) (by omega)) (by omega)) ?_
              rintro _ w16 ⟨rfl, H13⟩
              have hS9 := Kp.step hS8 H13
              have hB16 := Bl.step hB15 H13
              have hK40 := Blk.below hK37 H13
              have hK41 := Blk.below hK38 H13
              have hK42 := Blk.below hK39 H13
              have hz13 := H13.size
              refine ⟨hS9, ?_⟩
              refine RH.one 6 (by kernel_rfl) ?_
              refine RO.fn rfl rfl rfl rfl (Yc.func #[.int .i64 ((c.length : Nat) : Int), .int .i64 (((d[0]!).length : Nat) : Int), .func (.func 44) #[] #[.pointer (some ⟨b1, 0, none⟩), .pointer (some ⟨b2, 0, none⟩)]] rfl ok43 (args3 rfl rfl rfl)) (c43_44 (f := fun x y => sumTo d.length fun k => ((c[x]!)[k]!) * ((d[k]!)[y]!)) (fun hx hy hb => c44 (Blk.below hK40 hb) ((((hv.mono (kept_from hB0 hB16 (Nat.le_refl _))).wide (Nat.zero_le _) (by omega)).mono (kept_below hb (Nat.le_refl _))).wide (Nat.zero_le _) hb.size) (Blk.below hK41 hb) ((((hu.mono (kept_from hB0 hB16 (Nat.le_refl _))).wide (Nat.zero_le _) (by omega)).mono (kept_below hb (Nat.le_refl _))).wide (Nat.zero_le _) hb.size) hcc hcd (by omega) hx hy) (by omega) (by omega)) ?_
              rintro _ w17 ⟨s1, rfl, hR1, H14⟩
              obtain ⟨ps1, cs1, rfl, hl1⟩ := hR1.form
              have hS10 := Kp.step hS9 H14
              have hB17 := Bl.step hB16 H14
              have hK43 := Blk.below hK40 H14
              have hK44 := Blk.below hK41 H14
              have hK45 := Blk.below hK42 H14
              have hz14 := H14.size
              refine ⟨hS10, ?_⟩
              refine RH.one 7 (by kernel_rfl) ?_
              refine RO.stoAll rfl (cs' := #[.slice ps1 ((tab (c.length) ((d[0]!).length) (fun x y => sumTo d.length fun k => ((c[x]!)[k]!) * ((d[k]!)[y]!))).length) cs1]) rfl rfl hK45 (Yu.storeAll rfl rfl rfl sz24 hK45 rfl (by simp [Value.oneCell'])) ?_
              intro w18 H15
              have hS11 := Kp.sto hS10 H15 (.inl (List.mem_cons_self ..))
              have hB18 := Bl.sto hB17 H15 lo_b3
              have hK46 := Blk.sto hK43 H15 ne2
              have hK47 := Blk.sto hK44 H15 ne3
              have hK48 := H15.blk
              have hR2 := hR1.mono (kept_sto H15 (by omega) (by omega))
              have hz15 := H15.size
              refine ⟨hS11, ?_⟩
              refine RH.take 8 rfl (by kernel_rfl) rfl rfl rfl hS11 (fun W29 hW29 => Yl.assign rfl rfl) ?_
              refine RH.done (by kernel_rfl) ?_
              change CW _ _ _ _ _ _
              refine CW.ret ?_
              change FinQ _ _ _ _ _ _
              refine finC1 (.inr rfl) rfl rfl (run_loadVar_many (cs := [.slice ps1 ((tab (c.length) ((d[0]!).length) (fun x y => sumTo d.length fun k => ((c[x]!)[k]!) * ((d[k]!)[y]!))).length) cs1]) many24 (Blk.cells hK48)) rfl ?_
              have hcr : cascR c d = ((tab (c.length) ((d[0]!).length) (fun x y => sumTo d.length fun k => ((c[x]!)[k]!) * ((d[k]!)[y]!))), 0) := by unfold cascR; first | (rw [if_neg (by first | assumption | omega)]; done) | (rw [if_pos (by first | assumption | omega), if_neg (by first | assumption | omega)]; done) | (rw [if_pos (by first | assumption | omega), if_pos (by first | assumption | omega), if_neg (by first | assumption | omega)]; done) | (rw [if_pos (by first | assumption | omega), if_pos (by first | assumption | omega), if_pos (by first | assumption | omega)]; done)
              exact ⟨_, rfl, _, by rw [hcr], by rw [hcr]; exact hR2.wide (by omega) (by omega), hB18⟩)))

theorem c21 {w : World} {v u : Value} {c d : List (List Int)} (hv : RRows 0 w.heap.size w v c) (hu : RRows 0 w.heap.size w u d) :
    Calls Try.prog 21 #[.agg #[v], .agg #[u]] w (Ret fun r w' => ∃ s, r = .tuple #[.agg #[s], .int .i64 (parR c d).2] ∧ RRows w.heap.size w'.heap.size w' s (parR c d).1 ∧ Below w.heap.size w w') := by
  obtain ⟨p, cc, rfl, hl⟩ := hv.form
  obtain ⟨p2, cd, rfl, hl2⟩ := hu.form
  have hB0 : Below w.heap.size w w := Below.refl _ _
  refine Ev.calls (l := [.agg #[.slice p c.length cc], .agg #[.slice p2 d.length cd]]) Try.func21 rfl rfl rfl ?_
  change CW _ _ _ _ [(0, .agg #[.slice p c.length cc]), (1, .agg #[.slice p2 d.length cd])] _
  refine CW.seq ?_
  refine CW.region ?_
  refine RW.newP (cs := #[.slice p c.length cc]) (T := 24) rfl rfl rfl (Yv.box (v := .agg #[.slice p c.length cc]) rfl rfl) ?_
  intro b1 w1 N1
  have lo_b1 : w.heap.size ≤ b1 := by have := hB0.size; have := N1.num; omega
  have hn_b1 := N1.num
  have hs_b1 := N1.size
  have hB1 := Bl.step hB0 N1.below
  refine RW.newP (cs := #[.slice p2 d.length cd]) (T := 24) rfl rfl rfl (Yv.box (v := .agg #[.slice p2 d.length cd]) rfl rfl) ?_
  intro b2 w2 N2
  have ne1 := New.ne N2 N1.blk
  have lo_b2 : w.heap.size ≤ b2 := by have := hB1.size; have := N2.num; omega
  have hn_b2 := N2.num
  have hs_b2 := N2.size
  have hB2 := Bl.step hB1 N2.below
  have hK1 := Blk.below N1.blk N2.below
  refine RW.newP (cs := #[.slice none 0 0]) (T := 24) rfl rfl rfl (Yv.alloc (z := .agg #[.slice none 0 0]) rfl zero24) ?_
  intro b3 w3 N3
  have ne2 := New.ne N3 hK1
  have ne3 := New.ne N3 N2.blk
  have lo_b3 : w.heap.size ≤ b3 := by have := hB2.size; have := N3.num; omega
  have hn_b3 := N3.num
  have hs_b3 := N3.size
  have hB3 := Bl.step hB2 N3.below
  have hK2 := Blk.below hK1 N3.below
  have hK3 := Blk.below N2.blk N3.below
  refine RW.yl rfl rfl rfl (Yl.assign rfl rfl) ?_
  refine RW.nil ?_
  change CW _ _ _ _ _ _
  refine CW.seq ?_
  refine CW.seq ?_
  refine CW.region ?_
  refine RW.yl rfl rfl rfl (Yl.loadAgg (cs := [.slice p c.length cc]) rfl rfl many24 (Blk.cells hK2)) ?_
  refine RW.yl rfl rfl rfl (Yl.loadAgg (cs := [.slice p2 d.length cd]) rfl rfl many24 (Blk.cells hK3)) ?_
  refine RW.fn rfl rfl rfl (Yc.func #[.agg #[.slice p c.length cc], .agg #[.slice p2 d.length cd]] rfl ok39 (args2 rfl rfl)) (c39 ((hv.mono (kept_from hB0 hB3 (Nat.le_refl _))).wide (Nat.zero_le _) (by omega)) ((hu.mono (kept_from hB0 hB3 (Nat.le_refl _))).wide (Nat.zero_le _) (by omega))) ?_
  rintro _ w4 ⟨rfl, H1⟩
  have hB4 := Bl.step hB3 H1
  have hK4 := Blk.below hK2 H1
  have hK5 := Blk.below hK3 H1
  have hK6 := Blk.below N3.blk H1
  have hz1 := H1.size
  refine RW.yl rfl rfl rfl (Yl.assign rfl rfl) ?_
  refine RW.nil ?_
  change CW _ _ _ _ _ _
  refine CW.seq ?_
  refine CW.region ?_
  refine RW.yl rfl rfl rfl (Yl.move rfl rfl) ?_
  refine RW.yl rfl rfl rfl (Yl.neq rfl rfl rfl) ?_
  refine RW.nil ?_
  change CW _ _ _ _ _ _
  refine CW.cond rfl ?_ ?_
  ·
    intro hg1
    have hg2 : decide ((pairG c d) = 0) = false := not_t hg1
    have hq2 := of_decide_eq_false hg2
    first
    | (exfalso; omega)
    | (
      refine CW.seq ?_
      refine CW.region ?_
      refine RW.yl rfl rfl rfl (Yl.build0 rfl rfl built24) ?_
      refine RW.yl rfl rfl rfl (Yl.move rfl rfl) ?_
      refine RW.stoAll (cs' := #[.slice none 0 0]) rfl rfl hK6 (Yu.storeAll rfl rfl rfl sz24 hK6 rfl (by simp [Value.oneCell'])) ?_
      intro w5 H2
      have hB5 := Bl.sto hB4 H2 lo_b3
      have hK7 := Blk.sto hK4 H2 ne2
      have hK8 := Blk.sto hK5 H2 ne3
      have hK9 := H2.blk
      have hz2 := H2.size
      refine RW.yl rfl rfl rfl (Yl.assign rfl rfl) ?_
      refine RW.nil ?_
      change CW _ _ _ _ _ _
      refine CW.ret ?_
      change FinQ _ _ _ _ _ _
      refine finC1 (.inr rfl) rfl rfl (run_loadVar_many (cs := [.slice none 0 0]) many24 (Blk.cells hK9)) rfl ?_
      have hcr : parR c d = ([], pairG c d) := by unfold parR; first | (rw [if_neg (by first | assumption | omega)]; done) | (rw [if_pos (by first | assumption | omega), if_neg (by first | assumption | omega)]; done) | (rw [if_pos (by first | assumption | omega), if_pos (by first | assumption | omega), if_neg (by first | assumption | omega)]; done) | (rw [if_pos (by first | assumption | omega), if_pos (by first | assumption | omega), if_pos (by first | assumption | omega)]; done)
      exact ⟨_, rfl, _, by rw [hcr], by rw [hcr]; exact Sl.nil _ _ _ _, hB5⟩)
  ·
    intro hg3
    have hg4 : decide ((pairG c d) = 0) = true := not_f hg3
    have hq4 := of_decide_eq_true hg4
    have hvv := pairG_zero (of_decide_eq_true hg4)
    have hcc := validB_chan hvv.1
    have hcd := validB_chan hvv.2
    have htc := totG_bounds hvv.1
    have htd := totG_bounds hvv.2
    have hmm := mul_small ⟨htc.1, htc.2.1⟩ ⟨htd.1, htd.2.1⟩
    have q1 := hcc.r1
    have q2 := hcc.r2
    have q3 := hcc.c1
    have q4 := hcc.c2
    have q5 := hcd.r1
    have q6 := hcd.r2
    have q7 := hcd.c1
    have q8 := hcd.c2
    have q9 := Nat.mul_le_mul q4 q8
    first
    | (exfalso; omega)
    | (
      refine CW.skip ?_
      change CW _ _ _ _ _ _
      refine CW.seq ?_
      refine CW.seq ?_
      refine CW.region ?_
      refine RW.yl rfl rfl rfl (Yl.fieldAddr rfl rfl Try.underlying24 rfl sz22) ?_
      refine RW.yl rfl rfl rfl (Yl.load rfl rfl one22 (Blk.cell hK4 rfl)) ?_
      refine RW.yl rfl rfl rfl (Yl.len rfl rfl Try.underlying22) ?_
      refine RW.yl rfl rfl rfl (Yl.fieldAddr rfl rfl Try.underlying24 rfl sz22) ?_
      refine RW.yl rfl rfl rfl (Yl.load rfl rfl one22 (Blk.cell hK5 rfl)) ?_
      refine RW.yl rfl rfl rfl (Yl.len rfl rfl Try.underlying22) ?_
      refine RW.yl rfl rfl rfl (Yl.neq rfl rfl rfl) ?_
      refine RW.nil ?_
      change CW _ _ _ _ _ _
      refine CW.cond rfl ?_ ?_
      ·
        intro hg5
        have hg6 : decide (((c.length : Nat) : Int) = ((d.length : Nat) : Int)) = false := not_t hg5
        have hq6 := of_decide_eq_false hg6
        first
        | (exfalso; omega)
        | (
          refine CW.seq ?_
          refine CW.region ?_
          refine RW.yl rfl rfl rfl (Yl.build0 rfl rfl built24) ?_
          refine RW.stoAll (cs' := #[.slice none 0 0]) rfl rfl hK6 (Yu.storeAll rfl rfl rfl sz24 hK6 rfl (by simp [Value.oneCell'])) ?_
          intro w6 H3
          have hB6 := Bl.sto hB4 H3 lo_b3
          have hK10 := Blk.sto hK4 H3 ne2
          have hK11 := Blk.sto hK5 H3 ne3
          have hK12 := H3.blk
          have hz3 := H3.size
          refine RW.yl rfl rfl rfl (Yl.assign rfl rfl) ?_
          refine RW.nil ?_
          change CW _ _ _ _ _ _
          refine CW.ret ?_
          change FinQ _ _ _ _ _ _
          refine finC1 (.inr rfl) rfl rfl (run_loadVar_many (cs := [.slice none 0 0]) many24 (Blk.cells hK12)) rfl ?_
          have hcr : parR c d = ([], 2) := by unfold parR; first | (rw [if_neg (by first | assumption | omega)]; done) | (rw [if_pos (by first | assumption | omega), if_neg (by first | assumption | omega)]; done) | (rw [if_pos (by first | assumption | omega), if_pos (by first | assumption | omega), if_neg (by first | assumption | omega)]; done) | (rw [if_pos (by first | assumption | omega), if_pos (by first | assumption | omega), if_pos (by first | assumption | omega)]; done)
          exact ⟨_, rfl, _, by rw [hcr], by rw [hcr]; exact Sl.nil _ _ _ _, hB6⟩)
      ·
        intro hg7
        have hg8 : decide (((c.length : Nat) : Int) = ((d.length : Nat) : Int)) = true := not_f hg7
        have hq8 := of_decide_eq_true hg8
        first
        | (exfalso; omega)
        | (
          refine CW.skip ?_
          change CW _ _ _ _ _ _
          refine CW.seq ?_
          refine CW.region ?_
          refine RW.yl rfl rfl rfl (Yl.loadAgg (cs := [.slice p2 d.length cd]) rfl rfl many24 (Blk.cells hK5)) ?_
          refine RW.fn rfl rfl rfl (Yc.func #[.agg #[.slice p2 d.length cd]] rfl ok40 (args1 rfl)) (c40 ((hu.mono (kept_from hB0 hB4 (Nat.le_refl _))).wide (Nat.zero_le _) (by omega)) (by omega)) ?_
          rintro _ w7 ⟨rfl, H4⟩
          have hB7 := Bl.step hB4 H4
          have hK13 := Blk.below hK4 H4
          have hK14 := Blk.below hK5 H4
          have hK15 := Blk.below hK6 H4
          have hz4 := H4.size
          refine RW.newP (cs := #[.int .i64 0]) (T := 3) rfl rfl rfl (Yv.alloc (z := .int .i64 0) rfl zero3) ?_
          intro b4 w8 N4
          have ne4 := New.ne N4 hK13
          have ne5 := New.ne N4 hK14
          have ne6 := New.ne N4 hK15
          have lo_b4 : w.heap.size ≤ b4 := by have := hB7.size; have := N4.num; omega
          have hn_b4 := N4.num
          have hs_b4 := N4.size
          have hB8 := Bl.step hB7 N4.below
          have hK16 := Blk.below hK13 N4.below
          have hK17 := Blk.below hK14 N4.below
          have hK18 := Blk.below hK15 N4.below
          refine RW.sto (v := .int .i64 (((d[0]!).length : Nat) : Int)) (i := 0) rfl rfl N4.blk (Yu.store rfl rfl rfl rfl rfl sz3 N4.blk (by simp)) ?_
          intro w9 H5
          have hB9 := Bl.sto hB8 H5 lo_b4
          have hK19 := Blk.sto hK16 H5 ne4
          have hK20 := Blk.sto hK17 H5 ne5
          have hK21 := Blk.sto hK18 H5 ne6
          have hK22 := H5.blk
          have hz5 := H5.size
          refine RW.nil ?_
          change CW _ _ _ _ _ _
          refine CW.seq ?_
          refine CW.seq ?_
          refine CW.draw 11 rfl (Kp []) (by kernel_rfl) ?_
          intro w10 H6
          have hB10 := Bl.step hB9 H6
          have hK23 := Blk.below hK19 H6
          have hK24 := Blk.below hK20 H6
          have hK25 := Blk.below hK21 H6
          have hK26 := Blk.below hK22 H6
          have hz6 := H6.size
          have hS1 := Kp.refl [] w10
          refine RH.take 0 rfl (by kernel_rfl) rfl rfl rfl hS1 (fun W1 hW1 => Yl.loadAgg (cs := [.slice p c.length cc]) rfl rfl many24 (Blk.cells (Kp.blk hW1 hK23 (by simp)))) ?_
          refine RH.take 2 rfl (by kernel_rfl) rfl rfl rfl hS1 (fun W3 hW3 => Yl.load rfl rfl one3 (Blk.cell (Kp.blk hW3 hK26 (by simp)) rfl)) ?_
          refine RH.take 4 rfl (by kernel_rfl) rfl rfl rfl hS1 (fun W5 hW5 => Yl.loadAgg (cs := [.slice p c.length cc]) rfl rfl many24 (Blk.cells (Kp.blk hW5 hK23 (by simp)))) ?_
          refine RH.take 6 rfl (by kernel_rfl) rfl rfl rfl hS1 (fun W7 hW7 => Yl.loadAgg (cs := [.slice p2 d.length cd]) rfl rfl many24 (Blk.cells (Kp.blk hW7 hK24 (by simp)))) ?_
          refine RH.one 1 (by kernel_rfl) ?_
          refine RO.fn rfl rfl rfl rfl (Yc.func #[.agg #[.slice p c.length cc]] rfl ok40 (args1 rfl)) (c40 ((hv.mono (kept_from hB0 hB10 (Nat.le_refl _))).wide (Nat.zero_le _) (by omega)) (by omega)) ?_
          rintro _ w11 ⟨rfl, H7⟩
          have hS2 := Kp.step hS1 H7
          have hB11 := Bl.step hB10 H7
          have hK27 := Blk.below hK23 H7
          have hK28 := Blk.below hK24 H7
          have hK29 := Blk.below hK25 H7
          have hK30 := Blk.below hK26 H7
          have hz7 := H7.size
          refine ⟨hS2, ?_⟩
          refine RH.take 3 rfl (by kernel_rfl) rfl rfl rfl hS2 (fun W9 hW9 => Yl.mulN (a := (c[0]!).length) (b := (d[0]!).length) rfl rfl rfl (by omega)) ?_
          refine RH.one 5 (by kernel_rfl) ?_
          refine RO.fn rfl rfl rfl rfl (Yc.func #[.agg #[.slice p c.length cc]] rfl ok42 (args1 rfl)) (c42 ((hv.mono (kept_from hB0 hB11 (Nat.le_refl _))).wide (Nat.zero_le _) (by omega))) ?_
          rintro _ w12 ⟨rfl, H8⟩
          have hS3 := Kp.step hS2 H8
          have hB12 := Bl.step hB11 H8
          have hK31 := Blk.below hK27 H8
          have hK32 := Blk.below hK28 H8
          have hK33 := Blk.below hK29 H8
          have hK34 := Blk.below hK30 H8
          have hz8 := H8.size
          refine ⟨hS3, ?_⟩
          refine RH.one 7 (by kernel_rfl) ?_
          refine RO.fn rfl rfl rfl rfl (Yc.func #[.agg #[.slice p2 d.length cd]] rfl ok42 (args1 rfl)) (c42 ((hu.mono (kept_from hB0 hB12 (Nat.le_refl _))).wide (Nat.zero_le _) (by omega))) ?_
          rintro _ w13 ⟨rfl, H9⟩
          have hS4 := Kp.step hS3 H9
          have hB13 := Bl.step hB12 H9
          have hK35 := Blk.below hK31 H9
          have hK36 := Blk.below hK32 H9
          have hK37 := Blk.below hK33 H9
          have hK38 := Blk.below hK34 H9
          have hz9 := H9.size
          refine ⟨hS4, ?_⟩
          refine RH.take 8 rfl (by kernel_rfl) rfl rfl rfl hS4 (fun W12 hW12 => Yl.mul (m := totG c) (n := totG d) rfl rfl rfl (by omega)) ?_
          refine RH.one 9 (by kernel_rfl) ?_
          refine RO.fn rfl rfl rfl rfl (Yc.func #[.int .i64 ((((c[0]!).length) * ((d[0]!).length) : Nat) : Int), .int .i64 ((totG c) * (totG d))] rfl ok41 (args2 rfl rfl)) (c41) ?_
          rintro _ w14 ⟨rfl, H10⟩
          have hS5 := Kp.step hS4 H10
          have hB14 := Bl.step hB13 H10
          have hK39 := Blk.below hK35 H10
          have hK40 := Blk.below hK36 H10
          have hK41 := Blk.below hK37 H10
          have hK42 := Blk.below hK38 H10
          have hz10 := H10.size
          refine ⟨hS5, ?_⟩
          refine RH.take 10 rfl (by kernel_rfl) rfl rfl rfl hS5 (fun W14 hW14 => Yl.assign rfl rfl) ?_
          refine RH.done (by kernel_rfl) ?_
          change CW _ _ _ _ _ _
          refine CW.seq ?_
          refine CW.region ?_
          refine RW.yl rfl rfl rfl (Yl.move rfl rfl) ?_
          refine RW.yl rfl rfl rfl (Yl.neq rfl rfl rfl) ?_
          refine RW.nil ?_
          change CW _ _ _ _ _ _
          refine CW.cond rfl ?_ ?_
          ·
            intro hg9
            have hg10 : decide ((limG ((((c[0]!).length) * ((d[0]!).length) : Nat) : Int) ((totG c) * (totG d))) = 0) = false := not_t hg9
            have hq10 := of_decide_eq_false hg10
            first
            | (exfalso; omega)
            | (
              refine CW.seq ?_
              refine CW.region ?_
              refine RW.yl rfl rfl rfl (Yl.build0 rfl rfl built24) ?_
              refine RW.yl rfl rfl rfl (Yl.move rfl rfl) ?_
              refine RW.stoAll (cs' := #[.slice none 0 0]) rfl rfl hK41 (Yu.storeAll rfl rfl rfl sz24 hK41 rfl (by simp [Value.oneCell'])) ?_
              intro w15 H11
              have hB15 := Bl.sto hB14 H11 lo_b3
              have hK43 := Blk.sto hK39 H11 ne2
              have hK44 := Blk.sto hK40 H11 ne3
              have hK45 := H11.blk
              have hK46 := Blk.sto hK42 H11 ne6.symm
              have hz11 := H11.size
              refine RW.yl rfl rfl rfl (Yl.assign rfl rfl) ?_
              refine RW.nil ?_
              change CW _ _ _ _ _ _
              refine CW.ret ?_
              change FinQ _ _ _ _ _ _
              refine finC1 (.inr rfl) rfl rfl (run_loadVar_many (cs := [.slice none 0 0]) many24 (Blk.cells hK45)) rfl ?_
              have hcr : parR c d = ([], limG ((((c[0]!).length) * ((d[0]!).length) : Nat) : Int) ((totG c) * (totG d))) := by unfold parR; first | (rw [if_neg (by first | assumption | omega)]; done) | (rw [if_pos (by first | assumption | omega), if_neg (by first | assumption | omega)]; done) | (rw [if_pos (by first | assumption | omega), if_pos (by first | assumption | omega), if_neg (by first | assumption | omega)]; done) | (rw [if_pos (by first | assumption | omega), if_pos (by first | assumption | omega), if_pos (by first | assumption | omega)]; done)
              exact ⟨_, rfl, _, by rw [hcr], by rw [hcr]; exact Sl.nil _ _ _ _, hB15⟩)
          ·
            intro hg11
            have hg12 : decide ((limG ((((c[0]!).length) * ((d[0]!).length) : Nat) : Int) ((totG c) * (totG d))) = 0) = true := not_f hg11
            have hq12 := of_decide_eq_true hg12
            first
            | (exfalso; omega)
            | (
              refine CW.skip ?_
              change CW _ _ _ _ _ _
              refine CW.seq ?_
              refine CW.draw 11 rfl (Kp [b3]) (by kernel_rfl) ?_
              intro w16 H12
              have hB16 := Bl.step hB14 H12
              have hK47 := Blk.below hK39 H12
              have hK48 := Blk.below hK40 H12
              have hK49 := Blk.below hK41 H12
              have hK50 := Blk.below hK42 H12
              have hz12 := H12.size
              have hS6 := Kp.refl [b3] w16
              refine RH.take 0 rfl (by kernel_rfl) rfl rfl rfl hS6 (fun W15 hW15 => Yl.fieldAddr rfl rfl Try.underlying24 rfl sz22) ?_
              refine RH.take 1 rfl (by kernel_rfl) rfl rfl rfl hS6 (fun W16 hW16 => Yl.load rfl rfl one22 (Blk.cell (Kp.blk hW16 hK47 (by simp only [List.mem_cons, List.not_mem_nil, or_false]; omega)) rfl)) ?_
              refine RH.take 2 rfl (by kernel_rfl) rfl rfl rfl hS6 (fun W17 hW17 => Yl.len rfl rfl Try.underlying22) ?_
              refine RH.take 3 rfl (by kernel_rfl) rfl rfl rfl hS6 (fun W18 hW18 => Yl.loadAgg (cs := [.slice p c.length cc]) rfl rfl many24 (Blk.cells (Kp.blk hW18 hK47 (by simp only [List.mem_cons, List.not_mem_nil, or_false]; omega)))) ?_
              refine RH.take 5 rfl (by kernel_rfl) rfl rfl rfl hS6 (fun W20 hW20 => Yl.load rfl rfl one3 (Blk.cell (Kp.blk hW20 hK50 (by simp only [List.mem_cons, List.not_mem_nil, or_false]; omega)) rfl)) ?_
              refine RH.take 7 rfl (by kernel_rfl) rfl rfl rfl hS6 (fun W22 hW22 => Yl.func #[.pointer (some ⟨b1, 0, none⟩), .pointer (some ⟨b4, 0, none⟩), .pointer (some ⟨b2, 0, none⟩)] rfl rfl (args3 rfl rfl rfl)) ?_
              refine RH.one 4 (by kernel_rfl) ?_
              refine RO.fn rfl rfl rfl rfl (Yc.func #[.agg #[.slice p c.length cc]] rfl ok40 (args1 rfl)) (c40 ((hv.mono (kept_from hB0 hB16 (Nat.le_refl _))).wide (Nat.zero_le _) (by omega)) (by omega)) ?_
              rintro _ w17 ⟨rfl, H13⟩
              have hS7 := Kp.step hS6 H13
              have hB17 := Bl.step hB16 H13
              have hK51 := Blk.below hK47 H13
              have hK52 := Blk.below hK48 H13
              have hK53 := Blk.below hK49 H13
              have hK54 := Blk.below hK50 H13
              have hz13 := H13.size
              refine ⟨hS7, ?_⟩
              refine RH.take 6 rfl (by kernel_rfl) rfl rfl rfl hS7 (fun W24 hW24 => Yl.mulN (a := (c[0]!).length) (b := (d[0]!).length) rfl rfl rfl (by omega)) ?_
              refine RH.one 8 (by kernel_rfl) ?_
              refine RO.fn rfl rfl rfl rfl (Yc.func #[.int .i64 ((c.length : Nat) : Int), .int .i64 ((((c[0]!).length) * ((d[0]!).length) : Nat) : Int), .func (.func 46) #[] #[.pointer (some ⟨b1, 0, none⟩), .pointer (some ⟨b4, 0, none⟩), .pointer (some ⟨b2, 0, none⟩)]] rfl ok43 (args3 rfl rfl rfl)) (c43_46 (f := fun x y => ((c[x]!)[y / (d[0]!).length]!) * ((d[x]!)[y % (d[0]!).length]!)) (fun hx hy hb => c46 (Blk.below hK51 hb) ((((hv.mono (kept_from hB0 hB17 (Nat.le_refl _))).wide (Nat.zero_le _) (by omega)).mono (kept_below hb (Nat.le_refl _))).wide (Nat.zero_le _) hb.size) (Blk.below hK54 hb) (Blk.below hK52 hb) ((((hu.mono (kept_from hB0 hB17 (Nat.le_refl _))).wide (Nat.zero_le _) (by omega)).mono (kept_below hb (Nat.le_refl _))).wide (Nat.zero_le _) hb.size) hcc hcd rfl hx (by omega) hy) (by omega) (by omega)) ?_
              rintro _ w18 ⟨s1, rfl, hR1, H14⟩
              obtain ⟨ps1, cs1, rfl, hl1⟩ := hR1.form
              have hS8 := Kp.step hS7 H14
              have hB18 := Bl.step hB17 H14
              have hK55 := Blk.below hK51 H14
              have hK56 := Blk.below hK52 H14
              have hK57 := Blk.below hK53 H14
              have hK58 := Blk.below hK54 H14
              have hz14 := H14.size
              refine ⟨hS8, ?_⟩
              refine RH.one 9 (by kernel_rfl) ?_
              refine RO.stoAll rfl (cs' := #[.slice ps1 ((tab (c.length) (((c[0]!).length) * ((d[0]!).length)) (fun x y => ((c[x]!)[y / (d[0]!).length]!) * ((d[x]!)[y % (d[0]!).length]!))).length) cs1]) rfl rfl hK57 (Yu.storeAll rfl rfl rfl sz24 hK57 rfl (by simp [Value.oneCell'])) ?_
              intro w19 H15
              have hS9 := Kp.sto hS8 H15 (.inl (List.mem_cons_self ..))
              have hB19 := Bl.sto hB18 H15 lo_b3
              have hK59 := Blk.sto hK55 H15 ne2
              have hK60 := Blk.sto hK56 H15 ne3
              have hK61 := H15.blk
              have hK62 := Blk.sto hK58 H15 ne6.symm
              have hR2 := hR1.mono (kept_sto H15 (by omega) (by omega))
              have hz15 := H15.size
              refine ⟨hS9, ?_⟩
              refine RH.take 10 rfl (by kernel_rfl) rfl rfl rfl hS9 (fun W26 hW26 => Yl.assign rfl rfl) ?_
              refine RH.done (by kernel_rfl) ?_
              change CW _ _ _ _ _ _
              refine CW.ret ?_
              change FinQ _ _ _ _ _ _
              refine finC1 (.inr rfl) rfl rfl (run_loadVar_many (cs := [.slice ps1 ((tab (c.length) (((c[0]!).length) * ((d[0]!).length)) (fun x y => ((c[x]!)[y / (d[0]!).length]!) * ((d[x]!)[y % (d[0]!).length]!))).length) cs1]) many24 (Blk.cells hK61)) rfl ?_
              have hcr : parR c d = ((tab (c.length) (((c[0]!).length) * ((d[0]!).length)) (fun x y => ((c[x]!)[y / (d[0]!).length]!) * ((d[x]!)[y % (d[0]!).length]!))), 0) := by unfold parR; first | (rw [if_neg (by first | assumption | omega)]; done) | (rw [if_pos (by first | assumption | omega), if_neg (by first | assumption | omega)]; done) | (rw [if_pos (by first | assumption | omega), if_pos (by first | assumption | omega), if_neg (by first | assumption | omega)]; done) | (rw [if_pos (by first | assumption | omega), if_pos (by first | assumption | omega), if_pos (by first | assumption | omega)]; done)
              exact ⟨_, rfl, _, by rw [hcr], by rw [hcr]; exact hR2.wide (by omega) (by omega), hB19⟩)))

theorem c26 {w : World} {v u : Value} {c d : List (List Int)} (hv : RRows 0 w.heap.size w v c) (hu : RRows 0 w.heap.size w u d) {i j : Int} :
    Calls Try.prog 26 #[.agg #[v], .agg #[u], .int .i64 i, .int .i64 j] w (Ret fun r w' => ∃ s, r = .tuple #[.agg #[s], .int .i64 (hidR c d i j).2] ∧ RRows w.heap.size w'.heap.size w' s (hidR c d i j).1 ∧ Below w.heap.size w w') := by
  obtain ⟨p, cc, rfl, hl⟩ := hv.form
  obtain ⟨p2, cd, rfl, hl2⟩ := hu.form
  have hB0 : Below w.heap.size w w := Below.refl _ _
  refine Ev.calls (l := [.agg #[.slice p c.length cc], .agg #[.slice p2 d.length cd], .int .i64 i, .int .i64 j]) Try.func26 rfl rfl rfl ?_
  change CW _ _ _ _ [(0, .agg #[.slice p c.length cc]), (1, .agg #[.slice p2 d.length cd]), (2, .int .i64 i), (3, .int .i64 j)] _
  refine CW.seq ?_
  refine CW.region ?_
  refine RW.newP (cs := #[.slice p c.length cc]) (T := 24) rfl rfl rfl (Yv.box (v := .agg #[.slice p c.length cc]) rfl rfl) ?_
  intro b1 w1 N1
  have lo_b1 : w.heap.size ≤ b1 := by have := hB0.size; have := N1.num; omega
  have hn_b1 := N1.num
  have hs_b1 := N1.size
  have hB1 := Bl.step hB0 N1.below
  refine RW.newP (cs := #[.slice p2 d.length cd]) (T := 24) rfl rfl rfl (Yv.box (v := .agg #[.slice p2 d.length cd]) rfl rfl) ?_
  intro b2 w2 N2
  have ne1 := New.ne N2 N1.blk
  have lo_b2 : w.heap.size ≤ b2 := by have := hB1.size; have := N2.num; omega
  have hn_b2 := N2.num
  have hs_b2 := N2.size
  have hB2 := Bl.step hB1 N2.below
  have hK1 := Blk.below N1.blk N2.below
  refine RW.newP (cs := #[.int .i64 i]) (T := 3) rfl rfl rfl (Yv.box (v := .int .i64 i) rfl rfl) ?_
  intro b3 w3 N3
  have ne2 := New.ne N3 hK1
  have ne3 := New.ne N3 N2.blk
  have lo_b3 : w.heap.size ≤ b3 := by have := hB2.size; have := N3.num; omega
  have hn_b3 := N3.num
  have hs_b3 := N3.size
  have hB3 := Bl.step hB2 N3.below
  have hK2 := Blk.below hK1 N3.below
  have hK3 := Blk.below N2.blk N3.below
  refine RW.newP (cs := #[.int .i64 j]) (T := 3) rfl rfl rfl (Yv.box (v := .int .i64 j) rfl rfl) ?_
  intro b4 w4 N4
  have ne4 := New.ne N4 hK2
  have ne5 := New.ne N4 hK3
  have ne6 := New.ne N4 N3.blk
  have lo_b4 : w.heap.size ≤ b4 := by have := hB3.size; have := N4.num; omega
  have hn_b4 := N4.num
  have hs_b4 := N4.size
  have hB4 := Bl.step hB3 N4.below
  have hK4 := Blk.below hK2 N4.below
  have hK5 := Blk.below hK3 N4.below
  have hK6 := Blk.below N3.blk N4.below
  refine RW.newP (cs := #[.slice none 0 0]) (T := 24) rfl rfl rfl (Yv.alloc (z := .agg #[.slice none 0 0]) rfl zero24) ?_
  intro b5 w5 N5
  have ne7 := New.ne N5 hK4
  have ne8 := New.ne N5 hK5
  have ne9 := New.ne N5 hK6
  have ne10 := New.ne N5 N4.blk
  have lo_b5 : w.heap.size ≤ b5 := by have := hB4.size; have := N5.num; omega
  have hn_b5 := N5.num
  have hs_b5 := N5.size
  have hB5 := Bl.step hB4 N5.below
  have hK7 := Blk.below hK4 N5.below
  have hK8 := Blk.below hK5 N5.below
  have hK9 := Blk.below hK6 N5.below
  have hK10 := Blk.below N4.blk N5.below
  refine RW.yl rfl rfl rfl (Yl.assign rfl rfl) ?_
  refine RW.nil ?_
  change CW _ _ _ _ _ _
  refine CW.seq ?_
  refine CW.seq ?_
  refine CW.region ?_
  refine RW.yl rfl rfl rfl (Yl.loadAgg (cs := [.slice p c.length cc]) rfl rfl many24 (Blk.cells hK7)) ?_
  refine RW.yl rfl rfl rfl (Yl.loadAgg (cs := [.slice p2 d.length cd]) rfl rfl many24 (Blk.cells hK8)) ?_
  refine RW.fn rfl rfl rfl (Yc.func #[.agg #[.slice p c.length cc], .agg #[.slice p2 d.length cd]] rfl ok39 (args2 rfl rfl)) (c39 ((hv.mono (kept_from hB0 hB5 (Nat.le_refl _))).wide (Nat.zero_le _) (by omega)) ((hu.mono (kept_from hB0 hB5 (Nat.le_refl _))).wide (Nat.zero_le _) (by omega))) ?_
  rintro _ w6 ⟨rfl, H1⟩
  have hB6 := Bl.step hB5 H1
  have hK11 := Blk.below hK7 H1
  have hK12 := Blk.below hK8 H1
  have hK13 := Blk.below hK9 H1
  have hK14 := Blk.below hK10 H1
  have hK15 := Blk.below N5.blk H1
  have hz1 := H1.size
  refine RW.yl rfl rfl rfl (Yl.assign rfl rfl) ?_
  refine RW.nil ?_
  change CW _ _ _ _ _ _
  refine CW.seq ?_
  refine CW.region ?_
  refine RW.yl rfl rfl rfl (Yl.move rfl rfl) ?_
  refine RW.yl rfl rfl rfl (Yl.neq rfl rfl rfl) ?_
  refine RW.nil ?_
  change CW _ _ _ _ _ _
  refine CW.cond rfl ?_ ?_
  ·
    intro hg1
    have hg2 : decide ((pairG c d) = 0) = false := not_t hg1
    have hq2 := of_decide_eq_false hg2
    first
    | (exfalso; omega)
    | (
      refine CW.seq ?_
      refine CW.region ?_
      refine RW.yl rfl rfl rfl (Yl.build0 rfl rfl built24) ?_
      refine RW.yl rfl rfl rfl (Yl.move rfl rfl) ?_
      refine RW.stoAll (cs' := #[.slice none 0 0]) rfl rfl hK15 (Yu.storeAll rfl rfl rfl sz24 hK15 rfl (by simp [Value.oneCell'])) ?_
      intro w7 H2
      have hB7 := Bl.sto hB6 H2 lo_b5
      have hK16 := Blk.sto hK11 H2 ne7
      have hK17 := Blk.sto hK12 H2 ne8
      have hK18 := Blk.sto hK13 H2 ne9
      have hK19 := Blk.sto hK14 H2 ne10
      have hK20 := H2.blk
      have hz2 := H2.size
      refine RW.yl rfl rfl rfl (Yl.assign rfl rfl) ?_
      refine RW.nil ?_
      change CW _ _ _ _ _ _
      refine CW.ret ?_
      change FinQ _ _ _ _ _ _
      refine finC1 (.inr rfl) rfl rfl (run_loadVar_many (cs := [.slice none 0 0]) many24 (Blk.cells hK20)) rfl ?_
      have hcr : hidR c d i j = ([], pairG c d) := by unfold hidR; first | (rw [if_neg (by first | assumption | omega)]; done) | (rw [if_pos (by first | assumption | omega), if_neg (by first | assumption | omega)]; done) | (rw [if_pos (by first | assumption | omega), if_pos (by first | assumption | omega), if_neg (by first | assumption | omega)]; done) | (rw [if_pos (by first | assumption | omega), if_pos (by first | assumption | omega), if_pos (by first | assumption | omega), if_neg (by first | assumption | omega)]; done) | (rw [if_pos (by first | assumption | omega), if_pos (by first | assumption | omega), if_pos (by first | assumption | omega), if_pos (by first | assumption | omega), if_neg (by first | assumption | omega)]; done) | (rw [if_pos (by first | assumption | omega), if_pos (by first | assumption | omega), if_pos (by first | assumption | omega), if_pos (by first | assumption | omega), if_pos (by first | assumption | omega)]; done)
      exact ⟨_, rfl, _, by rw [hcr], by rw [hcr]; exact Sl.nil _ _ _ _, hB7⟩)
  ·
    intro hg3
    have hg4 : decide ((pairG c d) = 0) = true := not_f hg3
    have hq4 := of_decide_eq_true hg4
    have hvv := pairG_zero (of_decide_eq_true hg4)
    have hcc := validB_chan hvv.1
    have hcd := validB_chan hvv.2
    have htc := totG_bounds hvv.1
    have htd := totG_bounds hvv.2
    have hmm := mul_small ⟨htc.1, htc.2.1⟩ ⟨htd.1, htd.2.1⟩
    have q1 := hcc.r1
    have q2 := hcc.r2
    have q3 := hcc.c1
    have q4 := hcc.c2
    have q5 := hcd.r1
    have q6 := hcd.r2
    have q7 := hcd.c1
    have q8 := hcd.c2
    have q9 := Nat.mul_le_mul q4 q8
    first
    | (exfalso; omega)
    | (
      refine CW.skip ?_
      change CW _ _ _ _ _ _
      refine CW.seq ?_
      refine CW.seq ?_
      rcases Bool.eq_false_or_eq_true (decide (((c.length : Nat) : Int) = ((d.length : Nat) : Int))) with hg5 | hg5
      ·
        have hq5 := of_decide_eq_true hg5
        first
        | (exfalso; omega)
        | (
          refine CW.draw 14 rfl (Kp []) (by kernel_rfl) ?_
          intro w8 H3
          have hB8 := Bl.step hB6 H3
          have hK21 := Blk.below hK11 H3
          have hK22 := Blk.below hK12 H3
          have hK23 := Blk.below hK13 H3
          have hK24 := Blk.below hK14 H3
          have hK25 := Blk.below hK15 H3
          have hz3 := H3.size
          have hS1 := Kp.refl [] w8
          refine RH.take 0 rfl (by kernel_rfl) rfl rfl rfl hS1 (fun W1 hW1 => Yl.fieldAddr rfl rfl Try.underlying24 rfl sz22) ?_
          refine RH.take 1 rfl (by kernel_rfl) rfl rfl rfl hS1 (fun W2 hW2 => Yl.load rfl rfl one22 (Blk.cell (Kp.blk hW2 hK21 (by simp)) rfl)) ?_
          refine RH.take 2 rfl (by kernel_rfl) rfl rfl rfl hS1 (fun W3 hW3 => Yl.len rfl rfl Try.underlying22) ?_
          refine RH.take 3 rfl (by kernel_rfl) rfl rfl rfl hS1 (fun W4 hW4 => Yl.fieldAddr rfl rfl Try.underlying24 rfl sz22) ?_
          refine RH.take 4 rfl (by kernel_rfl) rfl rfl rfl hS1 (fun W5 hW5 => Yl.load rfl rfl one22 (Blk.cell (Kp.blk hW5 hK22 (by simp)) rfl)) ?_
          refine RH.take 5 rfl (by kernel_rfl) rfl rfl rfl hS1 (fun W6 hW6 => Yl.len rfl rfl Try.underlying22) ?_
          refine RH.take 6 rfl (by kernel_rfl) rfl rfl rfl hS1 (fun W7 hW7 => Yl.eqb (Yl.neq rfl rfl rfl) (congrArg (fun b => !b) hg5)) ?_
          refine RH.take 7 rfl (by kernel_rfl) rfl rfl rfl hS1 (fun W8 hW8 => Yl.move rfl rfl) ?_
          refine RH.take 8 rfl (by kernel_rfl) rfl rfl rfl hS1 (fun W9 hW9 => Yl.loadAgg (cs := [.slice p c.length cc]) rfl rfl many24 (Blk.cells (Kp.blk hW9 hK21 (by simp)))) ?_
          refine RH.take 10 rfl (by kernel_rfl) rfl rfl rfl hS1 (fun W11 hW11 => Yl.loadAgg (cs := [.slice p2 d.length cd]) rfl rfl many24 (Blk.cells (Kp.blk hW11 hK22 (by simp)))) ?_
          refine RH.one 9 (by kernel_rfl) ?_
          refine RO.fn rfl rfl rfl rfl (Yc.func #[.agg #[.slice p c.length cc]] rfl ok40 (args1 rfl)) (c40 ((hv.mono (kept_from hB0 hB8 (Nat.le_refl _))).wide (Nat.zero_le _) (by omega)) (by omega)) ?_
          rintro _ w9 ⟨rfl, H4⟩
          have hS2 := Kp.step hS1 H4
          have hB9 := Bl.step hB8 H4
          have hK26 := Blk.below hK21 H4
          have hK27 := Blk.below hK22 H4
          have hK28 := Blk.below hK23 H4
          have hK29 := Blk.below hK24 H4
          have hK30 := Blk.below hK25 H4
          have hz4 := H4.size
          refine ⟨hS2, ?_⟩
          refine RH.one 11 (by kernel_rfl) ?_
          refine RO.fn rfl rfl rfl rfl (Yc.func #[.agg #[.slice p2 d.length cd]] rfl ok40 (args1 rfl)) (c40 ((hu.mono (kept_from hB0 hB9 (Nat.le_refl _))).wide (Nat.zero_le _) (by omega)) (by omega)) ?_
          rintro _ w10 ⟨rfl, H5⟩
          have hS3 := Kp.step hS2 H5
          have hB10 := Bl.step hB9 H5
          have hK31 := Blk.below hK26 H5
          have hK32 := Blk.below hK27 H5
          have hK33 := Blk.below hK28 H5
          have hK34 := Blk.below hK29 H5
          have hK35 := Blk.below hK30 H5
          have hz5 := H5.size
          refine ⟨hS3, ?_⟩
          refine RH.take 12 rfl (by kernel_rfl) rfl rfl rfl hS3 (fun W14 hW14 => Yl.neq rfl rfl rfl) ?_
          refine RH.take 13 rfl (by kernel_rfl) rfl rfl rfl hS3 (fun W15 hW15 => Yl.pickF rfl rfl rfl) ?_
          refine RH.done (by kernel_rfl) ?_
          change CW _ _ _ _ _ _
          refine CW.cond rfl ?_ ?_
          ·
            intro hg6
            have hg7 : decide ((((c[0]!).length : Nat) : Int) = (((d[0]!).length : Nat) : Int)) = false := not_t hg6
            have hq7 := of_decide_eq_false hg7
            first
            | (exfalso; omega)
            | (
              refine CW.seq ?_
              refine CW.region ?_
              refine RW.yl rfl rfl rfl (Yl.build0 rfl rfl built24) ?_
              refine RW.stoAll (cs' := #[.slice none 0 0]) rfl rfl hK35 (Yu.storeAll rfl rfl rfl sz24 hK35 rfl (by simp [Value.oneCell'])) ?_
              intro w11 H6
              have hB11 := Bl.sto hB10 H6 lo_b5
              have hK36 := Blk.sto hK31 H6 ne7
              have hK37 := Blk.sto hK32 H6 ne8
              have hK38 := Blk.sto hK33 H6 ne9
              have hK39 := Blk.sto hK34 H6 ne10
              have hK40 := H6.blk
              have hz6 := H6.size
              refine RW.yl rfl rfl rfl (Yl.assign rfl rfl) ?_
              refine RW.nil ?_
              change CW _ _ _ _ _ _
              refine CW.ret ?_
              change FinQ _ _ _ _ _ _
              refine finC1 (.inr rfl) rfl rfl (run_loadVar_many (cs := [.slice none 0 0]) many24 (Blk.cells hK40)) rfl ?_
              have hcr : hidR c d i j = ([], 2) := by unfold hidR; first | (rw [if_neg (by first | assumption | omega)]; done) | (rw [if_pos (by first | assumption | omega), if_neg (by first | assumption | omega)]; done) | (rw [if_pos (by first | assumption | omega), if_pos (by first | assumption | omega), if_neg (by first | assumption | omega)]; done) | (rw [if_pos (by first | assumption | omega), if_pos (by first | assumption | omega), if_pos (by first | assumption | omega), if_neg (by first | assumption | omega)]; done) | (rw [if_pos (by first | assumption | omega), if_pos (by first | assumption | omega), if_pos (by first | assumption | omega), if_pos (by first | assumption | omega), if_neg (by first | assumption | omega)]; done) | (rw [if_pos (by first | assumption | omega), if_pos (by first | assumption | omega), if_pos (by first | assumption | omega), if_pos (by first | assumption | omega), if_pos (by first | assumption | omega)]; done)
              exact ⟨_, rfl, _, by rw [hcr], by rw [hcr]; exact Sl.nil _ _ _ _, hB11⟩)
          ·
            intro hg8
            have hg9 : decide ((((c[0]!).length : Nat) : Int) = (((d[0]!).length : Nat) : Int)) = true := not_f hg8
            have hq9 := of_decide_eq_true hg9
            first
            | (exfalso; omega)
            | (
              refine CW.skip ?_
              change CW _ _ _ _ _ _
              refine CW.seq ?_
              refine CW.seq ?_
              refine CW.region ?_
              refine RW.yl rfl rfl rfl (Yl.load rfl rfl one3 (Blk.cell hK33 rfl)) ?_
              refine RW.yl rfl rfl rfl (Yl.load rfl rfl one3 (Blk.cell hK34 rfl)) ?_
              refine RW.fn rfl rfl rfl (Yc.func #[.int .i64 i, .int .i64 j] rfl ok50 (args2 rfl rfl)) (c50) ?_
              rintro _ w12 ⟨rfl, H7⟩
              have hB12 := Bl.step hB10 H7
              have hK41 := Blk.below hK31 H7
              have hK42 := Blk.below hK32 H7
              have hK43 := Blk.below hK33 H7
              have hK44 := Blk.below hK34 H7
              have hK45 := Blk.below hK35 H7
              have hz7 := H7.size
              refine RW.yl rfl rfl rfl (Yl.not rfl rfl) ?_
              refine RW.nil ?_
              change CW _ _ _ _ _ _
              refine CW.cond rfl ?_ ?_
              ·
                intro hg10
                have hg11 : weightsB i j = false := not_t hg10
                have hw : ¬ weightsB i j = true := by rw [hg11]; decide
                first
                | (exfalso; omega)
                | (
                  refine CW.seq ?_
                  refine CW.region ?_
                  refine RW.yl rfl rfl rfl (Yl.build0 rfl rfl built24) ?_
                  refine RW.stoAll (cs' := #[.slice none 0 0]) rfl rfl hK45 (Yu.storeAll rfl rfl rfl sz24 hK45 rfl (by simp [Value.oneCell'])) ?_
                  intro w13 H8
                  have hB13 := Bl.sto hB12 H8 lo_b5
                  have hK46 := Blk.sto hK41 H8 ne7
                  have hK47 := Blk.sto hK42 H8 ne8
                  have hK48 := Blk.sto hK43 H8 ne9
                  have hK49 := Blk.sto hK44 H8 ne10
                  have hK50 := H8.blk
                  have hz8 := H8.size
                  refine RW.yl rfl rfl rfl (Yl.assign rfl rfl) ?_
                  refine RW.nil ?_
                  change CW _ _ _ _ _ _
                  refine CW.ret ?_
                  change FinQ _ _ _ _ _ _
                  refine finC1 (.inr rfl) rfl rfl (run_loadVar_many (cs := [.slice none 0 0]) many24 (Blk.cells hK50)) rfl ?_
                  have hcr : hidR c d i j = ([], 3) := by unfold hidR; first | (rw [if_neg (by first | assumption | omega)]; done) | (rw [if_pos (by first | assumption | omega), if_neg (by first | assumption | omega)]; done) | (rw [if_pos (by first | assumption | omega), if_pos (by first | assumption | omega), if_neg (by first | assumption | omega)]; done) | (rw [if_pos (by first | assumption | omega), if_pos (by first | assumption | omega), if_pos (by first | assumption | omega), if_neg (by first | assumption | omega)]; done) | (rw [if_pos (by first | assumption | omega), if_pos (by first | assumption | omega), if_pos (by first | assumption | omega), if_pos (by first | assumption | omega), if_neg (by first | assumption | omega)]; done) | (rw [if_pos (by first | assumption | omega), if_pos (by first | assumption | omega), if_pos (by first | assumption | omega), if_pos (by first | assumption | omega), if_pos (by first | assumption | omega)]; done)
                  exact ⟨_, rfl, _, by rw [hcr], by rw [hcr]; exact Sl.nil _ _ _ _, hB13⟩)
              ·
                intro hg12
                have hg13 : weightsB i j = true := not_f hg12
                have hw := weightsB_yes hg13
                have hm1 : 0 ≤ (i + j) * totG c ∧ (i + j) * totG c ≤ 200 * 1048576 := mul_bound ⟨by omega, by omega⟩ ⟨htc.1, htc.2.1⟩
                have hm2 : 0 ≤ ((i + j) * totG c) * totG d ∧ ((i + j) * totG c) * totG d ≤ (200 * 1048576) * 1048576 := mul_bound hm1 ⟨htd.1, htd.2.1⟩
                first
                | (exfalso; omega)
                | (
                  refine CW.skip ?_
                  change CW _ _ _ _ _ _
                  refine CW.seq ?_
                  refine CW.cut (fun E W => ∃ nb11_z1 : Nat, ∃ nb12_z2 : Nat, (Sub [(4, .pointer (some ⟨b1, 0, none⟩)), (5, .pointer (some ⟨b2, 0, none⟩)), (6, .pointer (some ⟨b3, 0, none⟩)), (7, .pointer (some ⟨b4, 0, none⟩)), (8, .pointer (some ⟨b5, 0, none⟩)), (9, .int .i64 0), (11, .pointer (some ⟨nb11_z1, 0, none⟩)), (12, .pointer (some ⟨nb12_z2, 0, none⟩))] E) ∧ (Below w.heap.size w W) ∧ (Blk W b1 #[.slice p c.length cc] 24) ∧ (Blk W b2 #[.slice p2 d.length cd] 24) ∧ (Blk W b3 #[.int .i64 i] 3) ∧ (Blk W b4 #[.int .i64 j] 3) ∧ (Blk W b5 #[.slice none 0 0] 24) ∧ (Blk W nb11_z1 #[.int .i64 (totG c)] 3) ∧ (Blk W nb12_z2 #[.int .i64 (totG d)] 3) ∧ (w.heap.size ≤ nb11_z1) ∧ (w.heap.size ≤ nb12_z2) ∧ (b1 ≠ nb11_z1) ∧ (b2 ≠ nb11_z1) ∧ (b3 ≠ nb11_z1) ∧ (b4 ≠ nb11_z1) ∧ (b5 ≠ nb11_z1) ∧ (b1 ≠ nb12_z2) ∧ (b2 ≠ nb12_z2) ∧ (b3 ≠ nb12_z2) ∧ (b4 ≠ nb12_z2) ∧ (b5 ≠ nb12_z2) ∧ (nb11_z1 ≠ nb12_z2) ∧ (w12.heap.size ≤ W.heap.size)) ?_ ?_
                  ·
                    refine CW.draw 8 rfl (Kp []) (by kernel_rfl) ?_
                    intro w14 H9
                    have hB14 := Bl.step hB12 H9
                    have hK51 := Blk.below hK41 H9
                    have hK52 := Blk.below hK42 H9
                    have hK53 := Blk.below hK43 H9
                    have hK54 := Blk.below hK44 H9
                    have hK55 := Blk.below hK45 H9
                    have hz9 := H9.size
                    have hS4 := Kp.refl [] w14
                    refine RH.take 0 rfl (by kernel_rfl) rfl rfl rfl hS4 (fun W16 hW16 => Yl.loadAgg (cs := [.slice p c.length cc]) rfl rfl many24 (Blk.cells (Kp.blk hW16 hK51 (by simp)))) ?_
                    refine RH.take 2 rfl (by kernel_rfl) rfl rfl rfl hS4 (fun W18 hW18 => Yl.loadAgg (cs := [.slice p2 d.length cd]) rfl rfl many24 (Blk.cells (Kp.blk hW18 hK52 (by simp)))) ?_
                    refine RH.three 1 4 5 (by kernel_rfl) ?_ ?_ ?_
                    ·
                      refine RO.fn rfl rfl rfl rfl (Yc.func #[.agg #[.slice p c.length cc]] rfl ok42 (args1 rfl)) (c42 ((hv.mono (kept_from hB0 hB14 (Nat.le_refl _))).wide (Nat.zero_le _) (by omega))) ?_
                      rintro _ w15 ⟨rfl, H10⟩
                      have hS5 := Kp.step hS4 H10
                      have hB15 := Bl.step hB14 H10
                      have hK56 := Blk.below hK51 H10
                      have hK57 := Blk.below hK52 H10
                      have hK58 := Blk.below hK53 H10
                      have hK59 := Blk.below hK54 H10
                      have hK60 := Blk.below hK55 H10
                      have hz10 := H10.size
                      refine ⟨hS5, ?_⟩
                      refine RH.three 3 4 5 (by kernel_rfl) ?_ ?_ ?_
                      ·
                        refine RO.fn rfl rfl rfl rfl (Yc.func #[.agg #[.slice p2 d.length cd]] rfl ok42 (args1 rfl)) (c42 ((hu.mono (kept_from hB0 hB15 (Nat.le_refl _))).wide (Nat.zero_le _) (by omega))) ?_
                        rintro _ w16 ⟨rfl, H11⟩
                        have hS6 := Kp.step hS5 H11
                        have hB16 := Bl.step hB15 H11
                        have hK61 := Blk.below hK56 H11
                        have hK62 := Blk.below hK57 H11
                        have hK63 := Blk.below hK58 H11
                        have hK64 := Blk.below hK59 H11
                        have hK65 := Blk.below hK60 H11
                        have hz11 := H11.size
                        refine ⟨hS6, ?_⟩
                        refine RH.two 4 5 (by kernel_rfl) ?_ ?_
                        ·
                          refine RO.newP rfl (cs := #[.int .i64 0]) (T := 3) rfl rfl rfl (Yv.alloc (z := .int .i64 0) rfl zero3) ?_
                          intro b6 w17 N6
                          have ne11 := New.ne N6 hK61
                          have ne12 := New.ne N6 hK62
                          have ne13 := New.ne N6 hK63
                          have ne14 := New.ne N6 hK64
                          have ne15 := New.ne N6 hK65
                          have lo_b6 : w.heap.size ≤ b6 := by have := hB16.size; have := N6.num; omega
                          have hn_b6 := N6.num
                          have hs_b6 := N6.size
                          have hS7 := Kp.step hS6 N6.below
                          have hB17 := Bl.step hB16 N6.below
                          have hK66 := Blk.below hK61 N6.below
                          have hK67 := Blk.below hK62 N6.below
                          have hK68 := Blk.below hK63 N6.below
                          have hK69 := Blk.below hK64 N6.below
                          have hK70 := Blk.below hK65 N6.below
                          refine ⟨hS7, ?_⟩
                          refine RH.one 5 (by kernel_rfl) ?_
                          refine RO.newP rfl (cs := #[.int .i64 0]) (T := 3) rfl rfl rfl (Yv.alloc (z := .int .i64 0) rfl zero3) ?_
                          intro b7 w18 N7
                          have ne16 := New.ne N7 hK66
                          have ne17 := New.ne N7 hK67
                          have ne18 := New.ne N7 hK68
                          have ne19 := New.ne N7 hK69
                          have ne20 := New.ne N7 hK70
                          have ne21 := New.ne N7 N6.blk
                          have lo_b7 : w.heap.size ≤ b7 := by have := hB17.size; have := N7.num; omega
                          have hn_b7 := N7.num
                          have hs_b7 := N7.size
                          have hS8 := Kp.step hS7 N7.below
                          have hB18 := Bl.step hB17 N7.below
                          have hK71 := Blk.below hK66 N7.below
                          have hK72 := Blk.below hK67 N7.below
                          have hK73 := Blk.below hK68 N7.below
                          have hK74 := Blk.below hK69 N7.below
                          have hK75 := Blk.below hK70 N7.below
                          have hK76 := Blk.below N6.blk N7.below
                          refine ⟨hS8, ?_⟩
                          refine RH.one 6 (by kernel_rfl) ?_
                          refine RO.sto rfl (v := .int .i64 (totG c)) (j := 0) rfl rfl hK76 (Yu.store rfl rfl rfl rfl rfl sz3 hK76 (by simp)) ?_
                          intro w19 H12
                          have hS9 := Kp.sto hS8 H12 (.inr (by omega))
                          have hB19 := Bl.sto hB18 H12 lo_b6
                          have hK77 := Blk.sto hK71 H12 ne11
                          have hK78 := Blk.sto hK72 H12 ne12
                          have hK79 := Blk.sto hK73 H12 ne13
                          have hK80 := Blk.sto hK74 H12 ne14
                          have hK81 := Blk.sto hK75 H12 ne15
                          have hK82 := H12.blk
                          have hK83 := Blk.sto N7.blk H12 ne21.symm
                          have hz12 := H12.size
                          refine ⟨hS9, ?_⟩
                          refine RH.one 7 (by kernel_rfl) ?_
                          refine RO.sto rfl (v := .int .i64 (totG d)) (j := 0) rfl rfl hK83 (Yu.store rfl rfl rfl rfl rfl sz3 hK83 (by simp)) ?_
                          intro w20 H13
                          have hS10 := Kp.sto hS9 H13 (.inr (by omega))
                          have hB20 := Bl.sto hB19 H13 lo_b7
                          have hK84 := Blk.sto hK77 H13 ne16
                          have hK85 := Blk.sto hK78 H13 ne17
                          have hK86 := Blk.sto hK79 H13 ne18
                          have hK87 := Blk.sto hK80 H13 ne19
                          have hK88 := Blk.sto hK81 H13 ne20
                          have hK89 := Blk.sto hK82 H13 ne21
                          have hK90 := H13.blk
                          have hz13 := H13.size
                          refine ⟨hS10, ?_⟩
                          refine RH.done (by kernel_rfl) ?_
                          exact ⟨b6, b7, Sub.cons rfl (Sub.cons rfl (Sub.cons rfl (Sub.cons rfl (Sub.cons rfl (Sub.cons rfl (Sub.cons rfl (Sub.cons rfl (Sub.nil)))))))), hB20, hK84, hK85, hK86, hK87, hK88, hK89, hK90, lo_b6, lo_b7, ne11, ne12, ne13, ne14, ne15, ne16, ne17, ne18, ne19, ne20, ne21, (by omega)⟩
                        ·
                          refine RO.newP rfl (cs := #[.int .i64 0]) (T := 3) rfl rfl rfl (Yv.alloc (z := .int .i64 0) rfl zero3) ?_
                          intro b8 w21 N8
                          have ne22 := New.ne N8 hK61
                          have ne23 := New.ne N8 hK62
                          have ne24 := New.ne N8 hK63
                          have ne25 := New.ne N8 hK64
                          have ne26 := New.ne N8 hK65
                          have lo_b8 : w.heap.size ≤ b8 := by have := hB16.size; have := N8.num; omega
                          have hn_b8 := N8.num
                          have hs_b8 := N8.size
                          have hS11 := Kp.step hS6 N8.below
                          have hB21 := Bl.step hB16 N8.below
                          have hK91 := Blk.below hK61 N8.below
                          have hK92 := Blk.below hK62 N8.below
                          have hK93 := Blk.below hK63 N8.below
                          have hK94 := Blk.below hK64 N8.below
                          have hK95 := Blk.below hK65 N8.below
                          refine ⟨hS11, ?_⟩
                          refine RH.one 4 (by kernel_rfl) ?_
                          refine RO.newP rfl (cs := #[.int .i64 0]) (T := 3) rfl rfl rfl (Yv.alloc (z := .int .i64 0) rfl zero3) ?_
                          intro b9 w22 N9
                          have ne27 := New.ne N9 hK91
                          have ne28 := New.ne N9 hK92
                          have ne29 := New.ne N9 hK93
                          have ne30 := New.ne N9 hK94
                          have ne31 := New.ne N9 hK95
                          have ne32 := New.ne N9 N8.blk
                          have lo_b9 : w.heap.size ≤ b9 := by have := hB21.size; have := N9.num; omega
                          have hn_b9 := N9.num
                          have hs_b9 := N9.size
                          have hS12 := Kp.step hS11 N9.below
                          have hB22 := Bl.step hB21 N9.below
                          have hK96 := Blk.below hK91 N9.below
                          have hK97 := Blk.below hK92 N9.below
                          have hK98 := Blk.below hK93 N9.below
                          have hK99 := Blk.below hK94 N9.below
                          have hK100 := Blk.below hK95 N9.below
                          have hK101 := Blk.below N8.blk N9.below
                          refine ⟨hS12, ?_⟩
                          refine RH.one 6 (by kernel_rfl) ?_
                          refine RO.sto rfl (v := .int .i64 (totG c)) (j := 0) rfl rfl N9.blk (Yu.store rfl rfl rfl rfl rfl sz3 N9.blk (by simp)) ?_
                          intro w23 H14
                          have hS13 := Kp.sto hS12 H14 (.inr (by omega))
                          have hB23 := Bl.sto hB22 H14 lo_b9
                          have hK102 := Blk.sto hK96 H14 ne27
                          have hK103 := Blk.sto hK97 H14 ne28
                          have hK104 := Blk.sto hK98 H14 ne29
                          have hK105 := Blk.sto hK99 H14 ne30
                          have hK106 := Blk.sto hK100 H14 ne31
                          have hK107 := Blk.sto hK101 H14 ne32
                          have hK108 := H14.blk
                          have hz14 := H14.size
                          refine ⟨hS13, ?_⟩
                          refine RH.one 7 (by kernel_rfl) ?_
                          refine RO.sto rfl (v := .int .i64 (totG d)) (j := 0) rfl rfl hK107 (Yu.store rfl rfl rfl rfl rfl sz3 hK107 (by simp)) ?_
                          intro w24 H15
                          have hS14 := Kp.sto hS13 H15 (.inr (by omega))
                          have hB24 := Bl.sto hB23 H15 lo_b8
                          have hK109 := Blk.sto hK102 H15 ne22
                          have hK110 := Blk.sto hK103 H15 ne23
                          have hK111 := Blk.sto hK104 H15 ne24
                          have hK112 := Blk.sto hK105 H15 ne25
                          have hK113 := Blk.sto hK106 H15 ne26
                          have hK114 := H15.blk
                          have hK115 := Blk.sto hK108 H15 ne32.symm
                          have hz15 := H15.size
                          refine ⟨hS14, ?_⟩
                          refine RH.done (by kernel_rfl) ?_
                          exact ⟨b9, b8, Sub.cons rfl (Sub.cons rfl (Sub.cons rfl (Sub.cons rfl (Sub.cons rfl (Sub.cons rfl (Sub.cons rfl (Sub.cons rfl (Sub.nil)))))))), hB24, hK109, hK110, hK111, hK112, hK113, hK115, hK114, lo_b9, lo_b8, ne27, ne28, ne29, ne30, ne31, ne22, ne23, ne24, ne25, ne26, ne32.symm, (by omega)⟩
                      ·
                        refine RO.newP rfl (cs := #[.int .i64 0]) (T := 3) rfl rfl rfl (Yv.alloc (z := .int .i64 0) rfl zero3) ?_
                        intro b10 w25 N10
                        have ne33 := New.ne N10 hK56
                        have ne34 := New.ne N10 hK57
                        have ne35 := New.ne N10 hK58
                        have ne36 := New.ne N10 hK59
                        have ne37 := New.ne N10 hK60
                        have lo_b10 : w.heap.size ≤ b10 := by have := hB15.size; have := N10.num; omega
                        have hn_b10 := N10.num
                        have hs_b10 := N10.size
                        have hS15 := Kp.step hS5 N10.below
                        have hB25 := Bl.step hB15 N10.below
                        have hK116 := Blk.below hK56 N10.below
                        have hK117 := Blk.below hK57 N10.below
                        have hK118 := Blk.below hK58 N10.below
                        have hK119 := Blk.below hK59 N10.below
                        have hK120 := Blk.below hK60 N10.below
                        refine ⟨hS15, ?_⟩
                        refine RH.two 3 5 (by kernel_rfl) ?_ ?_
                        ·
                          refine RO.fn rfl rfl rfl rfl (Yc.func #[.agg #[.slice p2 d.length cd]] rfl ok42 (args1 rfl)) (c42 ((hu.mono (kept_from hB0 hB25 (Nat.le_refl _))).wide (Nat.zero_le _) (by omega))) ?_
                          rintro _ w26 ⟨rfl, H16⟩
                          have hS16 := Kp.step hS15 H16
                          have hB26 := Bl.step hB25 H16
                          have hK121 := Blk.below hK116 H16
                          have hK122 := Blk.below hK117 H16
                          have hK123 := Blk.below hK118 H16
                          have hK124 := Blk.below hK119 H16
                          have hK125 := Blk.below hK120 H16
                          have hK126 := Blk.below N10.blk H16
                          have hz16 := H16.size
                          refine ⟨hS16, ?_⟩
                          refine RH.one 5 (by kernel_rfl) ?_
                          refine RO.newP rfl (cs := #[.int .i64 0]) (T := 3) rfl rfl rfl (Yv.alloc (z := .int .i64 0) rfl zero3) ?_
                          intro b11 w27 N11
                          have ne38 := New.ne N11 hK121
                          have ne39 := New.ne N11 hK122
                          have ne40 := New.ne N11 hK123
                          have ne41 := New.ne N11 hK124
                          have ne42 := New.ne N11 hK125
                          have ne43 := New.ne N11 hK126
                          have lo_b11 : w.heap.size ≤ b11 := by have := hB26.size; have := N11.num; omega
                          have hn_b11 := N11.num
                          have hs_b11 := N11.size
                          have hS17 := Kp.step hS16 N11.below
                          have hB27 := Bl.step hB26 N11.below
                          have hK127 := Blk.below hK121 N11.below
                          have hK128 := Blk.below hK122 N11.below
                          have hK129 := Blk.below hK123 N11.below
                          have hK130 := Blk.below hK124 N11.below
                          have hK131 := Blk.below hK125 N11.below
                          have hK132 := Blk.below hK126 N11.below
                          refine ⟨hS17, ?_⟩
                          refine RH.one 6 (by kernel_rfl) ?_
                          refine RO.sto rfl (v := .int .i64 (totG c)) (j := 0) rfl rfl hK132 (Yu.store rfl rfl rfl rfl rfl sz3 hK132 (by simp)) ?_
                          intro w28 H17
                          have hS18 := Kp.sto hS17 H17 (.inr (by omega))
                          have hB28 := Bl.sto hB27 H17 lo_b10
                          have hK133 := Blk.sto hK127 H17 ne33
                          have hK134 := Blk.sto hK128 H17 ne34
                          have hK135 := Blk.sto hK129 H17 ne35
                          have hK136 := Blk.sto hK130 H17 ne36
                          have hK137 := Blk.sto hK131 H17 ne37
                          have hK138 := H17.blk
                          have hK139 := Blk.sto N11.blk H17 ne43.symm
                          have hz17 := H17.size
                          refine ⟨hS18, ?_⟩
                          refine RH.one 7 (by kernel_rfl) ?_
                          refine RO.sto rfl (v := .int .i64 (totG d)) (j := 0) rfl rfl hK139 (Yu.store rfl rfl rfl rfl rfl sz3 hK139 (by simp)) ?_
                          intro w29 H18
                          have hS19 := Kp.sto hS18 H18 (.inr (by omega))
                          have hB29 := Bl.sto hB28 H18 lo_b11
                          have hK140 := Blk.sto hK133 H18 ne38
                          have hK141 := Blk.sto hK134 H18 ne39
                          have hK142 := Blk.sto hK135 H18 ne40
                          have hK143 := Blk.sto hK136 H18 ne41
                          have hK144 := Blk.sto hK137 H18 ne42
                          have hK145 := Blk.sto hK138 H18 ne43
                          have hK146 := H18.blk
                          have hz18 := H18.size
                          refine ⟨hS19, ?_⟩
                          refine RH.done (by kernel_rfl) ?_
                          exact ⟨b10, b11, Sub.cons rfl (Sub.cons rfl (Sub.cons rfl (Sub.cons rfl (Sub.cons rfl (Sub.cons rfl (Sub.cons rfl (Sub.cons rfl (Sub.nil)))))))), hB29, hK140, hK141, hK142, hK143, hK144, hK145, hK146, lo_b10, lo_b11, ne33, ne34, ne35, ne36, ne37, ne38, ne39, ne40, ne41, ne42, ne43, (by omega)⟩
                        ·
                          refine RO.newP rfl (cs := #[.int .i64 0]) (T := 3) rfl rfl rfl (Yv.alloc (z := .int .i64 0) rfl zero3) ?_
                          intro b12 w30 N12
                          have ne44 := New.ne N12 hK116
                          have ne45 := New.ne N12 hK117
                          have ne46 := New.ne N12 hK118
                          have ne47 := New.ne N12 hK119
                          have ne48 := New.ne N12 hK120
                          have ne49 := New.ne N12 N10.blk
                          have lo_b12 : w.heap.size ≤ b12 := by have := hB25.size; have := N12.num; omega
                          have hn_b12 := N12.num
                          have hs_b12 := N12.size
                          have hS20 := Kp.step hS15 N12.below
                          have hB30 := Bl.step hB25 N12.below
                          have hK147 := Blk.below hK116 N12.below
                          have hK148 := Blk.below hK117 N12.below
                          have hK149 := Blk.below hK118 N12.below
                          have hK150 := Blk.below hK119 N12.below
                          have hK151 := Blk.below hK120 N12.below
                          have hK152 := Blk.below N10.blk N12.below
                          refine ⟨hS20, ?_⟩
                          refine RH.one 3 (by kernel_rfl) ?_
                          refine RO.fn rfl rfl rfl rfl (Yc.func #[.agg #[.slice p2 d.length cd]] rfl ok42 (args1 rfl)) (c42 ((hu.mono (kept_from hB0 hB30 (Nat.le_refl _))).wide (Nat.zero_le _) (by omega))) ?_
                          rintro _ w31 ⟨rfl, H19⟩
                          have hS21 := Kp.step hS20 H19
                          have hB31 := Bl.step hB30 H19
                          have hK153 := Blk.below hK147 H19
                          have hK154 := Blk.below hK148 H19
                          have hK155 := Blk.below hK149 H19
                          have hK156 := Blk.below hK150 H19
                          have hK157 := Blk.below hK151 H19
                          have hK158 := Blk.below hK152 H19
                          have hK159 := Blk.below N12.blk H19
                          have hz19 := H19.size
                          refine ⟨hS21, ?_⟩
                          refine RH.one 6 (by kernel_rfl) ?_
                          refine RO.sto rfl (v := .int .i64 (totG c)) (j := 0) rfl rfl hK158 (Yu.store rfl rfl rfl rfl rfl sz3 hK158 (by simp)) ?_
                          intro w32 H20
                          have hS22 := Kp.sto hS21 H20 (.inr (by omega))
                          have hB32 := Bl.sto hB31 H20 lo_b10
                          have hK160 := Blk.sto hK153 H20 ne33
                          have hK161 := Blk.sto hK154 H20 ne34
                          have hK162 := Blk.sto hK155 H20 ne35
                          have hK163 := Blk.sto hK156 H20 ne36
                          have hK164 := Blk.sto hK157 H20 ne37
                          have hK165 := H20.blk
                          have hK166 := Blk.sto hK159 H20 ne49.symm
                          have hz20 := H20.size
                          refine ⟨hS22, ?_⟩
                          refine RH.one 7 (by kernel_rfl) ?_
                          refine RO.sto rfl (v := .int .i64 (totG d)) (j := 0) rfl rfl hK166 (Yu.store rfl rfl rfl rfl rfl sz3 hK166 (by simp)) ?_
                          intro w33 H21
                          have hS23 := Kp.sto hS22 H21 (.inr (by omega))
                          have hB33 := Bl.sto hB32 H21 lo_b12
                          have hK167 := Blk.sto hK160 H21 ne44
                          have hK168 := Blk.sto hK161 H21 ne45
                          have hK169 := Blk.sto hK162 H21 ne46
                          have hK170 := Blk.sto hK163 H21 ne47
                          have hK171 := Blk.sto hK164 H21 ne48
                          have hK172 := Blk.sto hK165 H21 ne49
                          have hK173 := H21.blk
                          have hz21 := H21.size
                          refine ⟨hS23, ?_⟩
                          refine RH.done (by kernel_rfl) ?_
                          exact ⟨b10, b12, Sub.cons rfl (Sub.cons rfl (Sub.cons rfl (Sub.cons rfl (Sub.cons rfl (Sub.cons rfl (Sub.cons rfl (Sub.cons rfl (Sub.nil)))))))), hB33, hK167, hK168, hK169, hK170, hK171, hK172, hK173, lo_b10, lo_b12, ne33, ne34, ne35, ne36, ne37, ne44, ne45, ne46, ne47, ne48, ne49, (by omega)⟩
                      ·
                        refine RO.newP rfl (cs := #[.int .i64 0]) (T := 3) rfl rfl rfl (Yv.alloc (z := .int .i64 0) rfl zero3) ?_
                        intro b13 w34 N13
                        have ne50 := New.ne N13 hK56
                        have ne51 := New.ne N13 hK57
                        have ne52 := New.ne N13 hK58
                        have ne53 := New.ne N13 hK59
                        have ne54 := New.ne N13 hK60
                        have lo_b13 : w.heap.size ≤ b13 := by have := hB15.size; have := N13.num; omega
                        have hn_b13 := N13.num
                        have hs_b13 := N13.size
                        have hS24 := Kp.step hS5 N13.below
                        have hB34 := Bl.step hB15 N13.below
                        have hK174 := Blk.below hK56 N13.below
                        have hK175 := Blk.below hK57 N13.below
                        have hK176 := Blk.below hK58 N13.below
                        have hK177 := Blk.below hK59 N13.below
                        have hK178 := Blk.below hK60 N13.below
                        refine ⟨hS24, ?_⟩
                        refine RH.two 3 4 (by kernel_rfl) ?_ ?_
                        ·
                          refine RO.fn rfl rfl rfl rfl (Yc.func #[.agg #[.slice p2 d.length cd]] rfl ok42 (args1 rfl)) (c42 ((hu.mono (kept_from hB0 hB34 (Nat.le_refl _))).wide (Nat.zero_le _) (by omega))) ?_
                          rintro _ w35 ⟨rfl, H22⟩
                          have hS25 := Kp.step hS24 H22
                          have hB35 := Bl.step hB34 H22
                          have hK179 := Blk.below hK174 H22
                          have hK180 := Blk.below hK175 H22
                          have hK181 := Blk.below hK176 H22
                          have hK182 := Blk.below hK177 H22
                          have hK183 := Blk.below hK178 H22
                          have hK184 := Blk.below N13.blk H22
                          have hz22 := H22.size
                          refine ⟨hS25, ?_⟩
                          refine RH.one 4 (by kernel_rfl) ?_
                          refine RO.newP rfl (cs := #[.int .i64 0]) (T := 3) rfl rfl rfl (Yv.alloc (z := .int .i64 0) rfl zero3) ?_
                          intro b14 w36 N14
                          have ne55 := New.ne N14 hK179
                          have ne56 := New.ne N14 hK180
                          have ne57 := New.ne N14 hK181
                          have ne58 := New.ne N14 hK182
                          have ne59 := New.ne N14 hK183
                          have ne60 := New.ne N14 hK184
                          have lo_b14 : w.heap.size ≤ b14 := by have := hB35.size; have := N14.num; omega
                          have hn_b14 := N14.num
                          have hs_b14 := N14.size
                          have hS26 := Kp.step hS25 N14.below
                          have hB36 := Bl.step hB35 N14.below
                          have hK185 := Blk.below hK179 N14.below
                          have hK186 := Blk.below hK180 N14.below
                          have hK187 := Blk.below hK181 N14.below
                          have hK188 := Blk.below hK182 N14.below
                          have hK189 := Blk.below hK183 N14.below
                          have hK190 := Blk.below hK184 N14.below
                          refine ⟨hS26, ?_⟩
                          refine RH.one 6 (by kernel_rfl) ?_
                          refine RO.sto rfl (v := .int .i64 (totG c)) (j := 0) rfl rfl N14.blk (Yu.store rfl rfl rfl rfl rfl sz3 N14.blk (by simp)) ?_
                          intro w37 H23
                          have hS27 := Kp.sto hS26 H23 (.inr (by omega))
                          have hB37 := Bl.sto hB36 H23 lo_b14
                          have hK191 := Blk.sto hK185 H23 ne55
                          have hK192 := Blk.sto hK186 H23 ne56
                          have hK193 := Blk.sto hK187 H23 ne57
                          have hK194 := Blk.sto hK188 H23 ne58
                          have hK195 := Blk.sto hK189 H23 ne59
                          have hK196 := Blk.sto hK190 H23 ne60
                          have hK197 := H23.blk
                          have hz23 := H23.size
                          refine ⟨hS27, ?_⟩
                          refine RH.one 7 (by kernel_rfl) ?_
                          refine RO.sto rfl (v := .int .i64 (totG d)) (j := 0) rfl rfl hK196 (Yu.store rfl rfl rfl rfl rfl sz3 hK196 (by simp)) ?_
                          intro w38 H24
                          have hS28 := Kp.sto hS27 H24 (.inr (by omega))
                          have hB38 := Bl.sto hB37 H24 lo_b13
                          have hK198 := Blk.sto hK191 H24 ne50
                          have hK199 := Blk.sto hK192 H24 ne51
                          have hK200 := Blk.sto hK193 H24 ne52
                          have hK201 := Blk.sto hK194 H24 ne53
                          have hK202 := Blk.sto hK195 H24 ne54
                          have hK203 := H24.blk
                          have hK204 := Blk.sto hK197 H24 ne60.symm
                          have hz24 := H24.size
                          refine ⟨hS28, ?_⟩
                          refine RH.done (by kernel_rfl) ?_
                          exact ⟨b14, b13, Sub.cons rfl (Sub.cons rfl (Sub.cons rfl (Sub.cons rfl (Sub.cons rfl (Sub.cons rfl (Sub.cons rfl (Sub.cons rfl (Sub.nil)))))))), hB38, hK198, hK199, hK200, hK201, hK202, hK204, hK203, lo_b14, lo_b13, ne55, ne56, ne57, ne58, ne59, ne50, ne51, ne52, ne53, ne54, ne60.symm, (by omega)⟩
                        ·
                          refine RO.newP rfl (cs := #[.int .i64 0]) (T := 3) rfl rfl rfl (Yv.alloc (z := .int .i64 0) rfl zero3) ?_
                          intro b15 w39 N15
                          have ne61 := New.ne N15 hK174
                          have ne62 := New.ne N15 hK175
                          have ne63 := New.ne N15 hK176
                          have ne64 := New.ne N15 hK177
                          have ne65 := New.ne N15 hK178
                          have ne66 := New.ne N15 N13.blk
                          have lo_b15 : w.heap.size ≤ b15 := by have := hB34.size; have := N15.num; omega
                          have hn_b15 := N15.num
                          have hs_b15 := N15.size
                          have hS29 := Kp.step hS24 N15.below
                          have hB39 := Bl.step hB34 N15.below
                          have hK205 := Blk.below hK174 N15.below
                          have hK206 := Blk.below hK175 N15.below
                          have hK207 := Blk.below hK176 N15.below
                          have hK208 := Blk.below hK177 N15.below
                          have hK209 := Blk.below hK178 N15.below
                          have hK210 := Blk.below N13.blk N15.below
                          refine ⟨hS29, ?_⟩
                          refine RH.one 3 (by kernel_rfl) ?_
                          refine RO.fn rfl rfl rfl rfl (Yc.func #[.agg #[.slice p2 d.length cd]] rfl ok42 (args1 rfl)) (c42 ((hu.mono (kept_from hB0 hB39 (Nat.le_refl _))).wide (Nat.zero_le _) (by omega))) ?_
                          rintro _ w40 ⟨rfl, H25⟩
                          have hS30 := Kp.step hS29 H25
                          have hB40 := Bl.step hB39 H25
                          have hK211 := Blk.below hK205 H25
                          have hK212 := Blk.below hK206 H25
                          have hK213 := Blk.below hK207 H25
                          have hK214 := Blk.below hK208 H25
                          have hK215 := Blk.below hK209 H25
                          have hK216 := Blk.below hK210 H25
                          have hK217 := Blk.below N15.blk H25
                          have hz25 := H25.size
                          refine ⟨hS30, ?_⟩
                          refine RH.one 6 (by kernel_rfl) ?_
                          refine RO.sto rfl (v := .int .i64 (totG c)) (j := 0) rfl rfl hK217 (Yu.store rfl rfl rfl rfl rfl sz3 hK217 (by simp)) ?_
                          intro w41 H26
                          have hS31 := Kp.sto hS30 H26 (.inr (by omega))
                          have hB41 := Bl.sto hB40 H26 lo_b15
                          have hK218 := Blk.sto hK211 H26 ne61
                          have hK219 := Blk.sto hK212 H26 ne62
                          have hK220 := Blk.sto hK213 H26 ne63
                          have hK221 := Blk.sto hK214 H26 ne64
                          have hK222 := Blk.sto hK215 H26 ne65
                          have hK223 := Blk.sto hK216 H26 ne66
                          have hK224 := H26.blk
                          have hz26 := H26.size
                          refine ⟨hS31, ?_⟩
                          refine RH.one 7 (by kernel_rfl) ?_
                          refine RO.sto rfl (v := .int .i64 (totG d)) (j := 0) rfl rfl hK223 (Yu.store rfl rfl rfl rfl rfl sz3 hK223 (by simp)) ?_
                          intro w42 H27
                          have hS32 := Kp.sto hS31 H27 (.inr (by omega))
                          have hB42 := Bl.sto hB41 H27 lo_b13
                          have hK225 := Blk.sto hK218 H27 ne50
                          have hK226 := Blk.sto hK219 H27 ne51
                          have hK227 := Blk.sto hK220 H27 ne52
                          have hK228 := Blk.sto hK221 H27 ne53
                          have hK229 := Blk.sto hK222 H27 ne54
                          have hK230 := H27.blk
                          have hK231 := Blk.sto hK224 H27 ne66.symm
                          have hz27 := H27.size
                          refine ⟨hS32, ?_⟩
                          refine RH.done (by kernel_rfl) ?_
                          exact ⟨b15, b13, Sub.cons rfl (Sub.cons rfl (Sub.cons rfl (Sub.cons rfl (Sub.cons rfl (Sub.cons rfl (Sub.cons rfl (Sub.cons rfl (Sub.nil)))))))), hB42, hK225, hK226, hK227, hK228, hK229, hK231, hK230, lo_b15, lo_b13, ne61, ne62, ne63, ne64, ne65, ne50, ne51, ne52, ne53, ne54, ne66.symm, (by omega)⟩
                    ·
                      refine RO.newP rfl (cs := #[.int .i64 0]) (T := 3) rfl rfl rfl (Yv.alloc (z := .int .i64 0) rfl zero3) ?_
                      intro b16 w43 N16
                      have ne67 := New.ne N16 hK51
                      have ne68 := New.ne N16 hK52
                      have ne69 := New.ne N16 hK53
                      have ne70 := New.ne N16 hK54
                      have ne71 := New.ne N16 hK55
                      have lo_b16 : w.heap.size ≤ b16 := by have := hB14.size; have := N16.num; omega
                      have hn_b16 := N16.num
                      have hs_b16 := N16.size
                      have hS33 := Kp.step hS4 N16.below
                      have hB43 := Bl.step hB14 N16.below
                      have hK232 := Blk.below hK51 N16.below
                      have hK233 := Blk.below hK52 N16.below
                      have hK234 := Blk.below hK53 N16.below
                      have hK235 := Blk.below hK54 N16.below
                      have hK236 := Blk.below hK55 N16.below
                      refine ⟨hS33, ?_⟩
                      refine RH.two 1 5 (by kernel_rfl) ?_ ?_
                      ·
                        refine RO.fn rfl rfl rfl rfl (Yc.func #[.agg #[.slice p c.length cc]] rfl ok42 (args1 rfl)) (c42 ((hv.mono (kept_from hB0 hB43 (Nat.le_refl _))).wide (Nat.zero_le _) (by omega))) ?_
                        rintro _ w44 ⟨rfl, H28⟩
                        have hS34 := Kp.step hS33 H28
                        have hB44 := Bl.step hB43 H28
                        have hK237 := Blk.below hK232 H28
                        have hK238 := Blk.below hK233 H28
                        have hK239 := Blk.below hK234 H28
                        have hK240 := Blk.below hK235 H28
                        have hK241 := Blk.below hK236 H28
                        have hK242 := Blk.below N16.blk H28
                        have hz28 := H28.size
                        refine ⟨hS34, ?_⟩
                        refine RH.two 3 5 (by kernel_rfl) ?_ ?_
                        ·
                          refine RO.fn rfl rfl rfl rfl (Yc.func #[.agg #[.slice p2 d.length cd]] rfl ok42 (args1 rfl)) (c42 ((hu.mono (kept_from hB0 hB44 (Nat.le_refl _))).wide (Nat.zero_le _) (by omega))) ?_
                          rintro _ w45 ⟨rfl, H29⟩
                          have hS35 := Kp.step hS34 H29
                          have hB45 := Bl.step hB44 H29
                          have hK243 := Blk.below hK237 H29
                          have hK244 := Blk.below hK238 H29
                          have hK245 := Blk.below hK239 H29
                          have hK246 := Blk.below hK240 H29
                          have hK247 := Blk.below hK241 H29
                          have hK248 := Blk.below hK242 H29
                          have hz29 := H29.size
                          refine ⟨hS35, ?_⟩
                          refine RH.one 5 (by kernel_rfl) ?_
                          refine RO.newP rfl (cs := #[.int .i64 0]) (T := 3) rfl rfl rfl (Yv.alloc (z := .int .i64 0) rfl zero3) ?_
                          intro b17 w46 N17
                          have ne72 := New.ne N17 hK243
                          have ne73 := New.ne N17 hK244
                          have ne74 := New.ne N17 hK245
                          have ne75 := New.ne N17 hK246
                          have ne76 := New.ne N17 hK247
                          have ne77 := New.ne N17 hK248
                          have lo_b17 : w.heap.size ≤ b17 := by have := hB45.size; have := N17.num; omega
                          have hn_b17 := N17.num
                          have hs_b17 := N17.size
                          have hS36 := Kp.step hS35 N17.below
                          have hB46 := Bl.step hB45 N17.below
                          have hK249 := Blk.below hK243 N17.below
                          have hK250 := Blk.below hK244 N17.below
                          have hK251 := Blk.below hK245 N17.below
                          have hK252 := Blk.below hK246 N17.below
                          have hK253 := Blk.below hK247 N17.below
                          have hK254 := Blk.below hK248 N17.below
                          refine ⟨hS36, ?_⟩
                          refine RH.one 6 (by kernel_rfl) ?_
                          refine RO.sto rfl (v := .int .i64 (totG c)) (j := 0) rfl rfl hK254 (Yu.store rfl rfl rfl rfl rfl sz3 hK254 (by simp)) ?_
                          intro w47 H30
                          have hS37 := Kp.sto hS36 H30 (.inr (by omega))
                          have hB47 := Bl.sto hB46 H30 lo_b16
                          have hK255 := Blk.sto hK249 H30 ne67
                          have hK256 := Blk.sto hK250 H30 ne68
                          have hK257 := Blk.sto hK251 H30 ne69
                          have hK258 := Blk.sto hK252 H30 ne70
                          have hK259 := Blk.sto hK253 H30 ne71
                          have hK260 := H30.blk
                          have hK261 := Blk.sto N17.blk H30 ne77.symm
                          have hz30 := H30.size
                          refine ⟨hS37, ?_⟩
                          refine RH.one 7 (by kernel_rfl) ?_
                          refine RO.sto rfl (v := .int .i64 (totG d)) (j := 0) rfl rfl hK261 (Yu.store rfl rfl rfl rfl rfl sz3 hK261 (by simp)) ?_
                          intro w48 H31
                          have hS38 := Kp.sto hS37 H31 (.inr (by omega))
                          have hB48 := Bl.sto hB47 H31 lo_b17
                          have hK262 := Blk.sto hK255 H31 ne72
                          have hK263 := Blk.sto hK256 H31 ne73
                          have hK264 := Blk.sto hK257 H31 ne74
                          have hK265 := Blk.sto hK258 H31 ne75
                          have hK266 := Blk.sto hK259 H31 ne76
                          have hK267 := Blk.sto hK260 H31 ne77
                          have hK268 := H31.blk
                          have hz31 := H31.size
                          refine ⟨hS38, ?_⟩
                          refine RH.done (by kernel_rfl) ?_
                          exact ⟨b16, b17, Sub.cons rfl (Sub.cons rfl (Sub.cons rfl (Sub.cons rfl (Sub.cons rfl (Sub.cons rfl (Sub.cons rfl (Sub.cons rfl (Sub.nil)))))))), hB48, hK262, hK263, hK264, hK265, hK266, hK267, hK268, lo_b16, lo_b17, ne67, ne68, ne69, ne70, ne71, ne72, ne73, ne74, ne75, ne76, ne77, (by omega)⟩
                        ·
                          refine RO.newP rfl (cs := #[.int .i64 0]) (T := 3) rfl rfl rfl (Yv.alloc (z := .int .i64 0) rfl zero3) ?_
                          intro b18 w49 N18
                          have ne78 := New.ne N18 hK237
                          have ne79 := New.ne N18 hK238
                          have ne80 := New.ne N18 hK239
                          have ne81 := New.ne N18 hK240
                          have ne82 := New.ne N18 hK241
                          have ne83 := New.ne N18 hK242
                          have lo_b18 : w.heap.size ≤ b18 := by have := hB44.size; have := N18.num; omega
                          have hn_b18 := N18.num
                          have hs_b18 := N18.size
                          have hS39 := Kp.step hS34 N18.below
                          have hB49 := Bl.step hB44 N18.below
                          have hK269 := Blk.below hK237 N18.below
                          have hK270 := Blk.below hK238 N18.below
                          have hK271 := Blk.below hK239 N18.below
                          have hK272 := Blk.below hK240 N18.below
                          have hK273 := Blk.below hK241 N18.below
                          have hK274 := Blk.below hK242 N18.below
                          refine ⟨hS39, ?_⟩
                          refine RH.one 3 (by kernel_rfl) ?_
                          refine RO.fn rfl rfl rfl rfl (Yc.func #[.agg #[.slice p2 d.length cd]] rfl ok42 (args1 rfl)) (c42 ((hu.mono (kept_from hB0 hB49 (Nat.le_refl _))).wide (Nat.zero_le _) (by omega))) ?_
                          rintro _ w50 ⟨rfl, H32⟩
                          have hS40 := Kp.step hS39 H32
                          have hB50 := Bl.step hB49 H32
                          have hK275 := Blk.below hK269 H32
                          have hK276 := Blk.below hK270 H32
                          have hK277 := Blk.below hK271 H32
                          have hK278 := Blk.below hK272 H32
                          have hK279 := Blk.below hK273 H32
                          have hK280 := Blk.below hK274 H32
                          have hK281 := Blk.below N18.blk H32
                          have hz32 := H32.size
                          refine ⟨hS40, ?_⟩
                          refine RH.one 6 (by kernel_rfl) ?_
                          refine RO.sto rfl (v := .int .i64 (totG c)) (j := 0) rfl rfl hK280 (Yu.store rfl rfl rfl rfl rfl sz3 hK280 (by simp)) ?_
                          intro w51 H33
                          have hS41 := Kp.sto hS40 H33 (.inr (by omega))
                          have hB51 := Bl.sto hB50 H33 lo_b16
                          have hK282 := Blk.sto hK275 H33 ne67
                          have hK283 := Blk.sto hK276 H33 ne68
                          have hK284 := Blk.sto hK277 H33 ne69
                          have hK285 := Blk.sto hK278 H33 ne70
                          have hK286 := Blk.sto hK279 H33 ne71
                          have hK287 := H33.blk
                          have hK288 := Blk.sto hK281 H33 ne83.symm
                          have hz33 := H33.size
                          refine ⟨hS41, ?_⟩
                          refine RH.one 7 (by kernel_rfl) ?_
                          refine RO.sto rfl (v := .int .i64 (totG d)) (j := 0) rfl rfl hK288 (Yu.store rfl rfl rfl rfl rfl sz3 hK288 (by simp)) ?_
                          intro w52 H34
                          have hS42 := Kp.sto hS41 H34 (.inr (by omega))
                          have hB52 := Bl.sto hB51 H34 lo_b18
                          have hK289 := Blk.sto hK282 H34 ne78
                          have hK290 := Blk.sto hK283 H34 ne79
                          have hK291 := Blk.sto hK284 H34 ne80
                          have hK292 := Blk.sto hK285 H34 ne81
                          have hK293 := Blk.sto hK286 H34 ne82
                          have hK294 := Blk.sto hK287 H34 ne83
                          have hK295 := H34.blk
                          have hz34 := H34.size
                          refine ⟨hS42, ?_⟩
                          refine RH.done (by kernel_rfl) ?_
                          exact ⟨b16, b18, Sub.cons rfl (Sub.cons rfl (Sub.cons rfl (Sub.cons rfl (Sub.cons rfl (Sub.cons rfl (Sub.cons rfl (Sub.cons rfl (Sub.nil)))))))), hB52, hK289, hK290, hK291, hK292, hK293, hK294, hK295, lo_b16, lo_b18, ne67, ne68, ne69, ne70, ne71, ne78, ne79, ne80, ne81, ne82, ne83, (by omega)⟩
                      ·
                        refine RO.newP rfl (cs := #[.int .i64 0]) (T := 3) rfl rfl rfl (Yv.alloc (z := .int .i64 0) rfl zero3) ?_
                        intro b19 w53 N19
                        have ne84 := New.ne N19 hK232
                        have ne85 := New.ne N19 hK233
                        have ne86 := New.ne N19 hK234
                        have ne87 := New.ne N19 hK235
                        have ne88 := New.ne N19 hK236
                        have ne89 := New.ne N19 N16.blk
                        have lo_b19 : w.heap.size ≤ b19 := by have := hB43.size; have := N19.num; omega
                        have hn_b19 := N19.num
                        have hs_b19 := N19.size
                        have hS43 := Kp.step hS33 N19.below
                        have hB53 := Bl.step hB43 N19.below
                        have hK296 := Blk.below hK232 N19.below
                        have hK297 := Blk.below hK233 N19.below
                        have hK298 := Blk.below hK234 N19.below
                        have hK299 := Blk.below hK235 N19.below
                        have hK300 := Blk.below hK236 N19.below
                        have hK301 := Blk.below N16.blk N19.below
                        refine ⟨hS43, ?_⟩
                        refine RH.one 1 (by kernel_rfl) ?_
                        refine RO.fn rfl rfl rfl rfl (Yc.func #[.agg #[.slice p c.length cc]] rfl ok42 (args1 rfl)) (c42 ((hv.mono (kept_from hB0 hB53 (Nat.le_refl _))).wide (Nat.zero_le _) (by omega))) ?_
                        rintro _ w54 ⟨rfl, H35⟩
                        have hS44 := Kp.step hS43 H35
                        have hB54 := Bl.step hB53 H35
                        have hK302 := Blk.below hK296 H35
                        have hK303 := Blk.below hK297 H35
                        have hK304 := Blk.below hK298 H35
                        have hK305 := Blk.below hK299 H35
                        have hK306 := Blk.below hK300 H35
                        have hK307 := Blk.below hK301 H35
                        have hK308 := Blk.below N19.blk H35
                        have hz35 := H35.size
                        refine ⟨hS44, ?_⟩
                        refine RH.one 3 (by kernel_rfl) ?_
                        refine RO.fn rfl rfl rfl rfl (Yc.func #[.agg #[.slice p2 d.length cd]] rfl ok42 (args1 rfl)) (c42 ((hu.mono (kept_from hB0 hB54 (Nat.le_refl _))).wide (Nat.zero_le _) (by omega))) ?_
                        rintro _ w55 ⟨rfl, H36⟩
                        have hS45 := Kp.step hS44 H36
                        have hB55 := Bl.step hB54 H36
                        have hK309 := Blk.below hK302 H36
                        have hK310 := Blk.below hK303 H36
                        have hK311 := Blk.below hK304 H36
                        have hK312 := Blk.below hK305 H36
                        have hK313 := Blk.below hK306 H36
                        have hK314 := Blk.below hK307 H36
                        have hK315 := Blk.below hK308 H36
                        have hz36 := H36.size
                        refine ⟨hS45, ?_⟩
                        refine RH.one 6 (by kernel_rfl) ?_
                        refine RO.sto rfl (v := .int .i64 (totG c)) (j := 0) rfl rfl hK314 (Yu.store rfl rfl rfl rfl rfl sz3 hK314 (by simp)) ?_
                        intro w56 H37
                        have hS46 := Kp.sto hS45 H37 (.inr (by omega))
                        have hB56 := Bl.sto hB55 H37 lo_b16
                        have hK316 := Blk.sto hK309 H37 ne67
                        have hK317 := Blk.sto hK310 H37 ne68
                        have hK318 := Blk.sto hK311 H37 ne69
                        have hK319 := Blk.sto hK312 H37 ne70
                        have hK320 := Blk.sto hK313 H37 ne71
                        have hK321 := H37.blk
                        have hK322 := Blk.sto hK315 H37 ne89.symm
                        have hz37 := H37.size
                        refine ⟨hS46, ?_⟩
                        refine RH.one 7 (by kernel_rfl) ?_
                        refine RO.sto rfl (v := .int .i64 (totG d)) (j := 0) rfl rfl hK322 (Yu.store rfl rfl rfl rfl rfl sz3 hK322 (by simp)) ?_
                        intro w57 H38
                        have hS47 := Kp.sto hS46 H38 (.inr (by omega))
                        have hB57 := Bl.sto hB56 H38 lo_b19
                        have hK323 := Blk.sto hK316 H38 ne84
                        have hK324 := Blk.sto hK317 H38 ne85
                        have hK325 := Blk.sto hK318 H38 ne86
                        have hK326 := Blk.sto hK319 H38 ne87
                        have hK327 := Blk.sto hK320 H38 ne88
                        have hK328 := Blk.sto hK321 H38 ne89
                        have hK329 := H38.blk
                        have hz38 := H38.size
                        refine ⟨hS47, ?_⟩
                        refine RH.done (by kernel_rfl) ?_
                        exact ⟨b16, b19, Sub.cons rfl (Sub.cons rfl (Sub.cons rfl (Sub.cons rfl (Sub.cons rfl (Sub.cons rfl (Sub.cons rfl (Sub.cons rfl (Sub.nil)))))))), hB57, hK323, hK324, hK325, hK326, hK327, hK328, hK329, lo_b16, lo_b19, ne67, ne68, ne69, ne70, ne71, ne84, ne85, ne86, ne87, ne88, ne89, (by omega)⟩
                    ·
                      refine RO.newP rfl (cs := #[.int .i64 0]) (T := 3) rfl rfl rfl (Yv.alloc (z := .int .i64 0) rfl zero3) ?_
                      intro b20 w58 N20
                      have ne90 := New.ne N20 hK51
                      have ne91 := New.ne N20 hK52
                      have ne92 := New.ne N20 hK53
                      have ne93 := New.ne N20 hK54
                      have ne94 := New.ne N20 hK55
                      have lo_b20 : w.heap.size ≤ b20 := by have := hB14.size; have := N20.num; omega
                      have hn_b20 := N20.num
                      have hs_b20 := N20.size
                      have hS48 := Kp.step hS4 N20.below
                      have hB58 := Bl.step hB14 N20.below
                      have hK330 := Blk.below hK51 N20.below
                      have hK331 := Blk.below hK52 N20.below
                      have hK332 := Blk.below hK53 N20.below
                      have hK333 := Blk.below hK54 N20.below
                      have hK334 := Blk.below hK55 N20.below
                      refine ⟨hS48, ?_⟩
                      refine RH.two 1 4 (by kernel_rfl) ?_ ?_
                      ·
                        refine RO.fn rfl rfl rfl rfl (Yc.func #[.agg #[.slice p c.length cc]] rfl ok42 (args1 rfl)) (c42 ((hv.mono (kept_from hB0 hB58 (Nat.le_refl _))).wide (Nat.zero_le _) (by omega))) ?_
                        rintro _ w59 ⟨rfl, H39⟩
                        have hS49 := Kp.step hS48 H39
                        have hB59 := Bl.step hB58 H39
                        have hK335 := Blk.below hK330 H39
                        have hK336 := Blk.below hK331 H39
                        have hK337 := Blk.below hK332 H39
                        have hK338 := Blk.below hK333 H39
                        have hK339 := Blk.below hK334 H39
                        have hK340 := Blk.below N20.blk H39
                        have hz39 := H39.size
                        refine ⟨hS49, ?_⟩
                        refine RH.two 3 4 (by kernel_rfl) ?_ ?_
                        ·
                          refine RO.fn rfl rfl rfl rfl (Yc.func #[.agg #[.slice p2 d.length cd]] rfl ok42 (args1 rfl)) (c42 ((hu.mono (kept_from hB0 hB59 (Nat.le_refl _))).wide (Nat.zero_le _) (by omega))) ?_
                          rintro _ w60 ⟨rfl, H40⟩
                          have hS50 := Kp.step hS49 H40
                          have hB60 := Bl.step hB59 H40
                          have hK341 := Blk.below hK335 H40
                          have hK342 := Blk.below hK336 H40
                          have hK343 := Blk.below hK337 H40
                          have hK344 := Blk.below hK338 H40
                          have hK345 := Blk.below hK339 H40
                          have hK346 := Blk.below hK340 H40
                          have hz40 := H40.size
                          refine ⟨hS50, ?_⟩
                          refine RH.one 4 (by kernel_rfl) ?_
                          refine RO.newP rfl (cs := #[.int .i64 0]) (T := 3) rfl rfl rfl (Yv.alloc (z := .int .i64 0) rfl zero3) ?_
                          intro b21 w61 N21
                          have ne95 := New.ne N21 hK341
                          have ne96 := New.ne N21 hK342
                          have ne97 := New.ne N21 hK343
                          have ne98 := New.ne N21 hK344
                          have ne99 := New.ne N21 hK345
                          have ne100 := New.ne N21 hK346
                          have lo_b21 : w.heap.size ≤ b21 := by have := hB60.size; have := N21.num; omega
                          have hn_b21 := N21.num
                          have hs_b21 := N21.size
                          have hS51 := Kp.step hS50 N21.below
                          have hB61 := Bl.step hB60 N21.below
                          have hK347 := Blk.below hK341 N21.below
                          have hK348 := Blk.below hK342 N21.below
                          have hK349 := Blk.below hK343 N21.below
                          have hK350 := Blk.below hK344 N21.below
                          have hK351 := Blk.below hK345 N21.below
                          have hK352 := Blk.below hK346 N21.below
                          refine ⟨hS51, ?_⟩
                          refine RH.one 6 (by kernel_rfl) ?_
                          refine RO.sto rfl (v := .int .i64 (totG c)) (j := 0) rfl rfl N21.blk (Yu.store rfl rfl rfl rfl rfl sz3 N21.blk (by simp)) ?_
                          intro w62 H41
                          have hS52 := Kp.sto hS51 H41 (.inr (by omega))
                          have hB62 := Bl.sto hB61 H41 lo_b21
                          have hK353 := Blk.sto hK347 H41 ne95
                          have hK354 := Blk.sto hK348 H41 ne96
                          have hK355 := Blk.sto hK349 H41 ne97
                          have hK356 := Blk.sto hK350 H41 ne98
                          have hK357 := Blk.sto hK351 H41 ne99
                          have hK358 := Blk.sto hK352 H41 ne100
                          have hK359 := H41.blk
                          have hz41 := H41.size
                          refine ⟨hS52, ?_⟩
                          refine RH.one 7 (by kernel_rfl) ?_
                          refine RO.sto rfl (v := .int .i64 (totG d)) (j := 0) rfl rfl hK358 (Yu.store rfl rfl rfl rfl rfl sz3 hK358 (by simp)) ?_
                          intro w63 H42
                          have hS53 := Kp.sto hS52 H42 (.inr (by omega))
                          have hB63 := Bl.sto hB62 H42 lo_b20
                          have hK360 := Blk.sto hK353 H42 ne90
                          have hK361 := Blk.sto hK354 H42 ne91
                          have hK362 := Blk.sto hK355 H42 ne92
                          have hK363 := Blk.sto hK356 H42 ne93
                          have hK364 := Blk.sto hK357 H42 ne94
                          have hK365 := H42.blk
                          have hK366 := Blk.sto hK359 H42 ne100.symm
                          have hz42 := H42.size
                          refine ⟨hS53, ?_⟩
                          refine RH.done (by kernel_rfl) ?_
                          exact ⟨b21, b20, Sub.cons rfl (Sub.cons rfl (Sub.cons rfl (Sub.cons rfl (Sub.cons rfl (Sub.cons rfl (Sub.cons rfl (Sub.cons rfl (Sub.nil)))))))), hB63, hK360, hK361, hK362, hK363, hK364, hK366, hK365, lo_b21, lo_b20, ne95, ne96, ne97, ne98, ne99, ne90, ne91, ne92, ne93, ne94, ne100.symm, (by omega)⟩
                        ·
                          refine RO.newP rfl (cs := #[.int .i64 0]) (T := 3) rfl rfl rfl (Yv.alloc (z := .int .i64 0) rfl zero3) ?_
                          intro b22 w64 N22
                          have ne101 := New.ne N22 hK335
                          have ne102 := New.ne N22 hK336
                          have ne103 := New.ne N22 hK337
                          have ne104 := New.ne N22 hK338
                          have ne105 := New.ne N22 hK339
                          have ne106 := New.ne N22 hK340
                          have lo_b22 : w.heap.size ≤ b22 := by have := hB59.size; have := N22.num; omega
                          have hn_b22 := N22.num
                          have hs_b22 := N22.size
                          have hS54 := Kp.step hS49 N22.below
                          have hB64 := Bl.step hB59 N22.below
                          have hK367 := Blk.below hK335 N22.below
                          have hK368 := Blk.below hK336 N22.below
                          have hK369 := Blk.below hK337 N22.below
                          have hK370 := Blk.below hK338 N22.below
                          have hK371 := Blk.below hK339 N22.below
                          have hK372 := Blk.below hK340 N22.below
                          refine ⟨hS54, ?_⟩
                          refine RH.one 3 (by kernel_rfl) ?_
                          refine RO.fn rfl rfl rfl rfl (Yc.func #[.agg #[.slice p2 d.length cd]] rfl ok42 (args1 rfl)) (c42 ((hu.mono (kept_from hB0 hB64 (Nat.le_refl _))).wide (Nat.zero_le _) (by omega))) ?_
                          rintro _ w65 ⟨rfl, H43⟩
                          have hS55 := Kp.step hS54 H43
                          have hB65 := Bl.step hB64 H43
                          have hK373 := Blk.below hK367 H43
                          have hK374 := Blk.below hK368 H43
                          have hK375 := Blk.below hK369 H43
                          have hK376 := Blk.below hK370 H43
                          have hK377 := Blk.below hK371 H43
                          have hK378 := Blk.below hK372 H43
                          have hK379 := Blk.below N22.blk H43
                          have hz43 := H43.size
                          refine ⟨hS55, ?_⟩
                          refine RH.one 6 (by kernel_rfl) ?_
                          refine RO.sto rfl (v := .int .i64 (totG c)) (j := 0) rfl rfl hK379 (Yu.store rfl rfl rfl rfl rfl sz3 hK379 (by simp)) ?_
                          intro w66 H44
                          have hS56 := Kp.sto hS55 H44 (.inr (by omega))
                          have hB66 := Bl.sto hB65 H44 lo_b22
                          have hK380 := Blk.sto hK373 H44 ne101
                          have hK381 := Blk.sto hK374 H44 ne102
                          have hK382 := Blk.sto hK375 H44 ne103
                          have hK383 := Blk.sto hK376 H44 ne104
                          have hK384 := Blk.sto hK377 H44 ne105
                          have hK385 := Blk.sto hK378 H44 ne106
                          have hK386 := H44.blk
                          have hz44 := H44.size
                          refine ⟨hS56, ?_⟩
                          refine RH.one 7 (by kernel_rfl) ?_
                          refine RO.sto rfl (v := .int .i64 (totG d)) (j := 0) rfl rfl hK385 (Yu.store rfl rfl rfl rfl rfl sz3 hK385 (by simp)) ?_
                          intro w67 H45
                          have hS57 := Kp.sto hS56 H45 (.inr (by omega))
                          have hB67 := Bl.sto hB66 H45 lo_b20
                          have hK387 := Blk.sto hK380 H45 ne90
                          have hK388 := Blk.sto hK381 H45 ne91
                          have hK389 := Blk.sto hK382 H45 ne92
                          have hK390 := Blk.sto hK383 H45 ne93
                          have hK391 := Blk.sto hK384 H45 ne94
                          have hK392 := H45.blk
                          have hK393 := Blk.sto hK386 H45 ne106.symm
                          have hz45 := H45.size
                          refine ⟨hS57, ?_⟩
                          refine RH.done (by kernel_rfl) ?_
                          exact ⟨b22, b20, Sub.cons rfl (Sub.cons rfl (Sub.cons rfl (Sub.cons rfl (Sub.cons rfl (Sub.cons rfl (Sub.cons rfl (Sub.cons rfl (Sub.nil)))))))), hB67, hK387, hK388, hK389, hK390, hK391, hK393, hK392, lo_b22, lo_b20, ne101, ne102, ne103, ne104, ne105, ne90, ne91, ne92, ne93, ne94, ne106.symm, (by omega)⟩
                      ·
                        refine RO.newP rfl (cs := #[.int .i64 0]) (T := 3) rfl rfl rfl (Yv.alloc (z := .int .i64 0) rfl zero3) ?_
                        intro b23 w68 N23
                        have ne107 := New.ne N23 hK330
                        have ne108 := New.ne N23 hK331
                        have ne109 := New.ne N23 hK332
                        have ne110 := New.ne N23 hK333
                        have ne111 := New.ne N23 hK334
                        have ne112 := New.ne N23 N20.blk
                        have lo_b23 : w.heap.size ≤ b23 := by have := hB58.size; have := N23.num; omega
                        have hn_b23 := N23.num
                        have hs_b23 := N23.size
                        have hS58 := Kp.step hS48 N23.below
                        have hB68 := Bl.step hB58 N23.below
                        have hK394 := Blk.below hK330 N23.below
                        have hK395 := Blk.below hK331 N23.below
                        have hK396 := Blk.below hK332 N23.below
                        have hK397 := Blk.below hK333 N23.below
                        have hK398 := Blk.below hK334 N23.below
                        have hK399 := Blk.below N20.blk N23.below
                        refine ⟨hS58, ?_⟩
                        refine RH.one 1 (by kernel_rfl) ?_
                        refine RO.fn rfl rfl rfl rfl (Yc.func #[.agg #[.slice p c.length cc]] rfl ok42 (args1 rfl)) (c42 ((hv.mono (kept_from hB0 hB68 (Nat.le_refl _))).wide (Nat.zero_le _) (by omega))) ?_
                        rintro _ w69 ⟨rfl, H46⟩
                        have hS59 := Kp.step hS58 H46
                        have hB69 := Bl.step hB68 H46
                        have hK400 := Blk.below hK394 H46
                        have hK401 := Blk.below hK395 H46
                        have hK402 := Blk.below hK396 H46
                        have hK403 := Blk.below hK397 H46
                        have hK404 := Blk.below hK398 H46
                        have hK405 := Blk.below hK399 H46
                        have hK406 := Blk.below N23.blk H46
                        have hz46 := H46.size
                        refine ⟨hS59, ?_⟩
                        refine RH.one 3 (by kernel_rfl) ?_
                        refine RO.fn rfl rfl rfl rfl (Yc.func #[.agg #[.slice p2 d.length cd]] rfl ok42 (args1 rfl)) (c42 ((hu.mono (kept_from hB0 hB69 (Nat.le_refl _))).wide (Nat.zero_le _) (by omega))) ?_
                        rintro _ w70 ⟨rfl, H47⟩
                        have hS60 := Kp.step hS59 H47
                        have hB70 := Bl.step hB69 H47
                        have hK407 := Blk.below hK400 H47
                        have hK408 := Blk.below hK401 H47
                        have hK409 := Blk.below hK402 H47
                        have hK410 := Blk.below hK403 H47
                        have hK411 := Blk.below hK404 H47
                        have hK412 := Blk.below hK405 H47
                        have hK413 := Blk.below hK406 H47
                        have hz47 := H47.size
                        refine ⟨hS60, ?_⟩
                        refine RH.one 6 (by kernel_rfl) ?_
                        refine RO.sto rfl (v := .int .i64 (totG c)) (j := 0) rfl rfl hK413 (Yu.store rfl rfl rfl rfl rfl sz3 hK413 (by simp)) ?_
                        intro w71 H48
                        have hS61 := Kp.sto hS60 H48 (.inr (by omega))
                        have hB71 := Bl.sto hB70 H48 lo_b23
                        have hK414 := Blk.sto hK407 H48 ne107
                        have hK415 := Blk.sto hK408 H48 ne108
                        have hK416 := Blk.sto hK409 H48 ne109
                        have hK417 := Blk.sto hK410 H48 ne110
                        have hK418 := Blk.sto hK411 H48 ne111
                        have hK419 := Blk.sto hK412 H48 ne112
                        have hK420 := H48.blk
                        have hz48 := H48.size
                        refine ⟨hS61, ?_⟩
                        refine RH.one 7 (by kernel_rfl) ?_
                        refine RO.sto rfl (v := .int .i64 (totG d)) (j := 0) rfl rfl hK419 (Yu.store rfl rfl rfl rfl rfl sz3 hK419 (by simp)) ?_
                        intro w72 H49
                        have hS62 := Kp.sto hS61 H49 (.inr (by omega))
                        have hB72 := Bl.sto hB71 H49 lo_b20
                        have hK421 := Blk.sto hK414 H49 ne90
                        have hK422 := Blk.sto hK415 H49 ne91
                        have hK423 := Blk.sto hK416 H49 ne92
                        have hK424 := Blk.sto hK417 H49 ne93
                        have hK425 := Blk.sto hK418 H49 ne94
                        have hK426 := H49.blk
                        have hK427 := Blk.sto hK420 H49 ne112.symm
                        have hz49 := H49.size
                        refine ⟨hS62, ?_⟩
                        refine RH.done (by kernel_rfl) ?_
                        exact ⟨b23, b20, Sub.cons rfl (Sub.cons rfl (Sub.cons rfl (Sub.cons rfl (Sub.cons rfl (Sub.cons rfl (Sub.cons rfl (Sub.cons rfl (Sub.nil)))))))), hB72, hK421, hK422, hK423, hK424, hK425, hK427, hK426, lo_b23, lo_b20, ne107, ne108, ne109, ne110, ne111, ne90, ne91, ne92, ne93, ne94, ne112.symm, (by omega)⟩
                  ·
                    rintro E1 w73 ⟨nb11_z1, nb12_z2, hsub1, hB73, hK428, hK429, hK430, hK431, hK432, hK433, hK434, lo1, lo2, ne113, ne114, ne115, ne116, ne117, ne118, ne119, ne120, ne121, ne122, ne123, hz50⟩
                    change CW _ _ _ _ _ _
                    refine CW.weak ?_ hsub1
                    refine CW.seq ?_
                    refine CW.seq ?_
                    refine CW.draw 11 rfl (Kp []) (by kernel_rfl) ?_
                    intro w74 H50
                    have hB74 := Bl.step hB73 H50
                    have hK435 := Blk.below hK428 H50
                    have hK436 := Blk.below hK429 H50
                    have hK437 := Blk.below hK430 H50
                    have hK438 := Blk.below hK431 H50
                    have hK439 := Blk.below hK432 H50
                    have hK440 := Blk.below hK433 H50
                    have hK441 := Blk.below hK434 H50
                    have hz51 := H50.size
                    have hS63 := Kp.refl [] w74
                    refine RH.take 0 rfl (by kernel_rfl) rfl rfl rfl hS63 (fun W53 hW53 => Yl.loadAgg (cs := [.slice p c.length cc]) rfl rfl many24 (Blk.cells (Kp.blk hW53 hK435 (by simp)))) ?_
                    refine RH.take 2 rfl (by kernel_rfl) rfl rfl rfl hS63 (fun W55 hW55 => Yl.load rfl rfl one3 (Blk.cell (Kp.blk hW55 hK437 (by simp)) rfl)) ?_
                    refine RH.take 3 rfl (by kernel_rfl) rfl rfl rfl hS63 (fun W57 hW57 => Yl.load rfl rfl one3 (Blk.cell (Kp.blk hW57 hK438 (by simp)) rfl)) ?_
                    refine RH.take 4 rfl (by kernel_rfl) rfl rfl rfl hS63 (fun W59 hW59 => Yl.add (m := i) (n := j) rfl rfl rfl (by omega)) ?_
                    refine RH.take 5 rfl (by kernel_rfl) rfl rfl rfl hS63 (fun W61 hW61 => Yl.load rfl rfl one3 (Blk.cell (Kp.blk hW61 hK440 (by simp)) rfl)) ?_
                    refine RH.take 6 rfl (by kernel_rfl) rfl rfl rfl hS63 (fun W63 hW63 => Yl.mul (m := i + j) (n := totG c) rfl rfl rfl (by omega)) ?_
                    refine RH.take 7 rfl (by kernel_rfl) rfl rfl rfl hS63 (fun W65 hW65 => Yl.load rfl rfl one3 (Blk.cell (Kp.blk hW65 hK441 (by simp)) rfl)) ?_
                    refine RH.take 8 rfl (by kernel_rfl) rfl rfl rfl hS63 (fun W67 hW67 => Yl.mul (m := (i + j) * (totG c)) (n := totG d) rfl rfl rfl (by omega)) ?_
                    refine RH.one 1 (by kernel_rfl) ?_
                    refine RO.fn rfl rfl rfl rfl (Yc.func #[.agg #[.slice p c.length cc]] rfl ok40 (args1 rfl)) (c40 ((hv.mono (kept_from hB0 hB74 (Nat.le_refl _))).wide (Nat.zero_le _) (by omega)) (by omega)) ?_
                    rintro _ w75 ⟨rfl, H51⟩
                    have hS64 := Kp.step hS63 H51
                    have hB75 := Bl.step hB74 H51
                    have hK442 := Blk.below hK435 H51
                    have hK443 := Blk.below hK436 H51
                    have hK444 := Blk.below hK437 H51
                    have hK445 := Blk.below hK438 H51
                    have hK446 := Blk.below hK439 H51
                    have hK447 := Blk.below hK440 H51
                    have hK448 := Blk.below hK441 H51
                    have hz52 := H51.size
                    refine ⟨hS64, ?_⟩
                    refine RH.one 9 (by kernel_rfl) ?_
                    refine RO.fn rfl rfl rfl rfl (Yc.func #[.int .i64 (((c[0]!).length : Nat) : Int), .int .i64 (((i + j) * (totG c)) * (totG d))] rfl ok41 (args2 rfl rfl)) (c41) ?_
                    rintro _ w76 ⟨rfl, H52⟩
                    have hS65 := Kp.step hS64 H52
                    have hB76 := Bl.step hB75 H52
                    have hK449 := Blk.below hK442 H52
                    have hK450 := Blk.below hK443 H52
                    have hK451 := Blk.below hK444 H52
                    have hK452 := Blk.below hK445 H52
                    have hK453 := Blk.below hK446 H52
                    have hK454 := Blk.below hK447 H52
                    have hK455 := Blk.below hK448 H52
                    have hz53 := H52.size
                    refine ⟨hS65, ?_⟩
                    refine RH.take 10 rfl (by kernel_rfl) rfl rfl rfl hS65 (fun W70 hW70 => Yl.assign rfl rfl) ?_
                    refine RH.done (by kernel_rfl) ?_
                    change CW _ _ _ _ _ _
                    refine CW.seq ?_
                    refine CW.region ?_
                    refine RW.yl rfl rfl rfl (Yl.move rfl rfl) ?_
                    refine RW.yl rfl rfl rfl (Yl.neq rfl rfl rfl) ?_
                    refine RW.nil ?_
                    change CW _ _ _ _ _ _
                    refine CW.cond rfl ?_ ?_
                    ·
                      intro hg14
                      have hg15 : decide ((limG (((c[0]!).length : Nat) : Int) (((i + j) * (totG c)) * (totG d))) = 0) = false := not_t hg14
                      have hq13 := of_decide_eq_false hg15
                      first
                      | (exfalso; omega)
                      | (
                        refine CW.seq ?_
                        refine CW.region ?_
                        refine RW.yl rfl rfl rfl (Yl.build0 rfl rfl built24) ?_
                        refine RW.yl rfl rfl rfl (Yl.move rfl rfl) ?_
                        refine RW.stoAll (cs' := #[.slice none 0 0]) rfl rfl hK453 (Yu.storeAll rfl rfl rfl sz24 hK453 rfl (by simp [Value.oneCell'])) ?_
                        intro w77 H53
                        have hB77 := Bl.sto hB76 H53 lo_b5
                        have hK456 := Blk.sto hK449 H53 ne7
                        have hK457 := Blk.sto hK450 H53 ne8
                        have hK458 := Blk.sto hK451 H53 ne9
                        have hK459 := Blk.sto hK452 H53 ne10
                        have hK460 := H53.blk
                        have hK461 := Blk.sto hK454 H53 ne117.symm
                        have hK462 := Blk.sto hK455 H53 ne122.symm
                        have hz54 := H53.size
                        refine RW.yl rfl rfl rfl (Yl.assign rfl rfl) ?_
                        refine RW.nil ?_
                        change CW _ _ _ _ _ _
                        refine CW.ret ?_
                        change FinQ _ _ _ _ _ _
                        refine finC1 (.inr rfl) rfl rfl (run_loadVar_many (cs := [.slice none 0 0]) many24 (Blk.cells hK460)) rfl ?_
                        have hcr : hidR c d i j = ([], limG (((c[0]!).length : Nat) : Int) (((i + j) * (totG c)) * (totG d))) := by unfold hidR; first | (rw [if_neg (by first | assumption | omega)]; done) | (rw [if_pos (by first | assumption | omega), if_neg (by first | assumption | omega)]; done) | (rw [if_pos (by first | assumption | omega), if_pos (by first | assumption | omega), if_neg (by first | assumption | omega)]; done) | (rw [if_pos (by first | assumption | omega), if_pos (by first | assumption | omega), if_pos (by first | assumption | omega), if_neg (by first | assumption | omega)]; done) | (rw [if_pos (by first | assumption | omega), if_pos (by first | assumption | omega), if_pos (by first | assumption | omega), if_pos (by first | assumption | omega), if_neg (by first | assumption | omega)]; done) | (rw [if_pos (by first | assumption | omega), if_pos (by first | assumption | omega), if_pos (by first | assumption | omega), if_pos (by first | assumption | omega), if_pos (by first | assumption | omega)]; done)
                        exact ⟨_, rfl, _, by rw [hcr], by rw [hcr]; exact Sl.nil _ _ _ _, hB77⟩)
                    ·
                      intro hg16
                      have hg17 : decide ((limG (((c[0]!).length : Nat) : Int) (((i + j) * (totG c)) * (totG d))) = 0) = true := not_f hg16
                      have hq15 := of_decide_eq_true hg17
                      first
                      | (exfalso; omega)
                      | (
                        refine CW.skip ?_
                        change CW _ _ _ _ _ _
                        refine CW.seq ?_
                        refine CW.draw 9 rfl (Kp [b5]) (by kernel_rfl) ?_
                        intro w78 H54
                        have hB78 := Bl.step hB76 H54
                        have hK463 := Blk.below hK449 H54
                        have hK464 := Blk.below hK450 H54
                        have hK465 := Blk.below hK451 H54
                        have hK466 := Blk.below hK452 H54
                        have hK467 := Blk.below hK453 H54
                        have hK468 := Blk.below hK454 H54
                        have hK469 := Blk.below hK455 H54
                        have hz55 := H54.size
                        have hS66 := Kp.refl [b5] w78
                        refine RH.take 0 rfl (by kernel_rfl) rfl rfl rfl hS66 (fun W71 hW71 => Yl.fieldAddr rfl rfl Try.underlying24 rfl sz22) ?_
                        refine RH.take 1 rfl (by kernel_rfl) rfl rfl rfl hS66 (fun W72 hW72 => Yl.load rfl rfl one22 (Blk.cell (Kp.blk hW72 hK463 (by simp only [List.mem_cons, List.not_mem_nil, or_false]; omega)) rfl)) ?_
                        refine RH.take 2 rfl (by kernel_rfl) rfl rfl rfl hS66 (fun W73 hW73 => Yl.len rfl rfl Try.underlying22) ?_
                        refine RH.take 3 rfl (by kernel_rfl) rfl rfl rfl hS66 (fun W74 hW74 => Yl.loadAgg (cs := [.slice p c.length cc]) rfl rfl many24 (Blk.cells (Kp.blk hW74 hK463 (by simp only [List.mem_cons, List.not_mem_nil, or_false]; omega)))) ?_
                        refine RH.take 5 rfl (by kernel_rfl) rfl rfl rfl hS66 (fun W76 hW76 => Yl.func #[.pointer (some ⟨b3, 0, none⟩), .pointer (some ⟨nb12_z2, 0, none⟩), .pointer (some ⟨b1, 0, none⟩), .pointer (some ⟨b4, 0, none⟩), .pointer (some ⟨nb11_z1, 0, none⟩), .pointer (some ⟨b2, 0, none⟩)] rfl rfl (args6 rfl rfl rfl rfl rfl rfl)) ?_
                        refine RH.one 4 (by kernel_rfl) ?_
                        refine RO.fn rfl rfl rfl rfl (Yc.func #[.agg #[.slice p c.length cc]] rfl ok40 (args1 rfl)) (c40 ((hv.mono (kept_from hB0 hB78 (Nat.le_refl _))).wide (Nat.zero_le _) (by omega)) (by omega)) ?_
                        rintro _ w79 ⟨rfl, H55⟩
                        have hS67 := Kp.step hS66 H55
                        have hB79 := Bl.step hB78 H55
                        have hK470 := Blk.below hK463 H55
                        have hK471 := Blk.below hK464 H55
                        have hK472 := Blk.below hK465 H55
                        have hK473 := Blk.below hK466 H55
                        have hK474 := Blk.below hK467 H55
                        have hK475 := Blk.below hK468 H55
                        have hK476 := Blk.below hK469 H55
                        have hz56 := H55.size
                        refine ⟨hS67, ?_⟩
                        refine RH.one 6 (by kernel_rfl) ?_
                        refine RO.fn rfl rfl rfl rfl (Yc.func #[.int .i64 ((c.length : Nat) : Int), .int .i64 (((c[0]!).length : Nat) : Int), .func (.func 51) #[] #[.pointer (some ⟨b3, 0, none⟩), .pointer (some ⟨nb12_z2, 0, none⟩), .pointer (some ⟨b1, 0, none⟩), .pointer (some ⟨b4, 0, none⟩), .pointer (some ⟨nb11_z1, 0, none⟩), .pointer (some ⟨b2, 0, none⟩)]] rfl ok43 (args3 rfl rfl rfl)) (c43_51 (f := fun x y => (i * totG d) * ((c[x]!)[y]!) + (j * totG c) * ((d[x]!)[y]!)) (fun hx hy hb => c51 (Blk.below hK472 hb) (Blk.below hK476 hb) (Blk.below hK470 hb) ((((hv.mono (kept_from hB0 hB79 (Nat.le_refl _))).wide (Nat.zero_le _) (by omega)).mono (kept_below hb (Nat.le_refl _))).wide (Nat.zero_le _) hb.size) (Blk.below hK473 hb) (Blk.below hK475 hb) (Blk.below hK471 hb) ((((hu.mono (kept_from hB0 hB79 (Nat.le_refl _))).wide (Nat.zero_le _) (by omega)).mono (kept_below hb (Nat.le_refl _))).wide (Nat.zero_le _) hb.size) hcc hcd hx (by omega) hy (by omega) (by omega) (by omega) (by omega) (by omega)) (by omega) (by omega)) ?_
                        rintro _ w80 ⟨s1, rfl, hR1, H56⟩
                        obtain ⟨ps1, cs1, rfl, hl1⟩ := hR1.form
                        have hS68 := Kp.step hS67 H56
                        have hB80 := Bl.step hB79 H56
                        have hK477 := Blk.below hK470 H56
                        have hK478 := Blk.below hK471 H56
                        have hK479 := Blk.below hK472 H56
                        have hK480 := Blk.below hK473 H56
                        have hK481 := Blk.below hK474 H56
                        have hK482 := Blk.below hK475 H56
                        have hK483 := Blk.below hK476 H56
                        have hz57 := H56.size
                        refine ⟨hS68, ?_⟩
                        refine RH.one 7 (by kernel_rfl) ?_
                        refine RO.stoAll rfl (cs' := #[.slice ps1 ((tab (c.length) ((c[0]!).length) (fun x y => (i * totG d) * ((c[x]!)[y]!) + (j * totG c) * ((d[x]!)[y]!))).length) cs1]) rfl rfl hK481 (Yu.storeAll rfl rfl rfl sz24 hK481 rfl (by simp [Value.oneCell'])) ?_
                        intro w81 H57
                        have hS69 := Kp.sto hS68 H57 (.inl (List.mem_cons_self ..))
                        have hB81 := Bl.sto hB80 H57 lo_b5
                        have hK484 := Blk.sto hK477 H57 ne7
                        have hK485 := Blk.sto hK478 H57 ne8
                        have hK486 := Blk.sto hK479 H57 ne9
                        have hK487 := Blk.sto hK480 H57 ne10
                        have hK488 := H57.blk
                        have hK489 := Blk.sto hK482 H57 ne117.symm
                        have hK490 := Blk.sto hK483 H57 ne122.symm
                        have hR2 := hR1.mono (kept_sto H57 (by omega) (by omega))
                        have hz58 := H57.size
                        refine ⟨hS69, ?_⟩
                        refine RH.take 8 rfl (by kernel_rfl) rfl rfl rfl hS69 (fun W79 hW79 => Yl.assign rfl rfl) ?_
                        refine RH.done (by kernel_rfl) ?_
                        change CW _ _ _ _ _ _
                        refine CW.ret ?_
                        change FinQ _ _ _ _ _ _
                        refine finC1 (.inr rfl) rfl rfl (run_loadVar_many (cs := [.slice ps1 ((tab (c.length) ((c[0]!).length) (fun x y => (i * totG d) * ((c[x]!)[y]!) + (j * totG c) * ((d[x]!)[y]!))).length) cs1]) many24 (Blk.cells hK488)) rfl ?_
                        have hcr : hidR c d i j = ((tab (c.length) ((c[0]!).length) (fun x y => (i * totG d) * ((c[x]!)[y]!) + (j * totG c) * ((d[x]!)[y]!))), 0) := by unfold hidR; first | (rw [if_neg (by first | assumption | omega)]; done) | (rw [if_pos (by first | assumption | omega), if_neg (by first | assumption | omega)]; done) | (rw [if_pos (by first | assumption | omega), if_pos (by first | assumption | omega), if_neg (by first | assumption | omega)]; done) | (rw [if_pos (by first | assumption | omega), if_pos (by first | assumption | omega), if_pos (by first | assumption | omega), if_neg (by first | assumption | omega)]; done) | (rw [if_pos (by first | assumption | omega), if_pos (by first | assumption | omega), if_pos (by first | assumption | omega), if_pos (by first | assumption | omega), if_neg (by first | assumption | omega)]; done) | (rw [if_pos (by first | assumption | omega), if_pos (by first | assumption | omega), if_pos (by first | assumption | omega), if_pos (by first | assumption | omega), if_pos (by first | assumption | omega)]; done)
                        exact ⟨_, rfl, _, by rw [hcr], by rw [hcr]; exact hR2.wide (by omega) (by omega), hB81⟩))))
      ·
        have hq5 := of_decide_eq_false hg5
        first
        | (exfalso; omega)
        | (
          refine CW.draw 14 rfl (Kp []) (by kernel_rfl) ?_
          intro w82 H58
          have hB82 := Bl.step hB6 H58
          have hK491 := Blk.below hK11 H58
          have hK492 := Blk.below hK12 H58
          have hK493 := Blk.below hK13 H58
          have hK494 := Blk.below hK14 H58
          have hK495 := Blk.below hK15 H58
          have hz59 := H58.size
          have hS70 := Kp.refl [] w82
          refine RH.take 0 rfl (by kernel_rfl) rfl rfl rfl hS70 (fun W80 hW80 => Yl.fieldAddr rfl rfl Try.underlying24 rfl sz22) ?_
          refine RH.take 1 rfl (by kernel_rfl) rfl rfl rfl hS70 (fun W81 hW81 => Yl.load rfl rfl one22 (Blk.cell (Kp.blk hW81 hK491 (by simp)) rfl)) ?_
          refine RH.take 2 rfl (by kernel_rfl) rfl rfl rfl hS70 (fun W82 hW82 => Yl.len rfl rfl Try.underlying22) ?_
          refine RH.take 3 rfl (by kernel_rfl) rfl rfl rfl hS70 (fun W83 hW83 => Yl.fieldAddr rfl rfl Try.underlying24 rfl sz22) ?_
          refine RH.take 4 rfl (by kernel_rfl) rfl rfl rfl hS70 (fun W84 hW84 => Yl.load rfl rfl one22 (Blk.cell (Kp.blk hW84 hK492 (by simp)) rfl)) ?_
          refine RH.take 5 rfl (by kernel_rfl) rfl rfl rfl hS70 (fun W85 hW85 => Yl.len rfl rfl Try.underlying22) ?_
          refine RH.take 6 rfl (by kernel_rfl) rfl rfl rfl hS70 (fun W86 hW86 => Yl.eqb (Yl.neq rfl rfl rfl) (congrArg (fun b => !b) hg5)) ?_
          refine RH.take 7 rfl (by kernel_rfl) rfl rfl rfl hS70 (fun W87 hW87 => Yl.move rfl rfl) ?_
          refine RH.pass 8 rfl (by kernel_rfl) rfl rfl rfl hS70 ?_
          refine RH.pass 9 rfl (by kernel_rfl) rfl rfl rfl hS70 ?_
          refine RH.pass 10 rfl (by kernel_rfl) rfl rfl rfl hS70 ?_
          refine RH.pass 11 rfl (by kernel_rfl) rfl rfl rfl hS70 ?_
          refine RH.pass 12 rfl (by kernel_rfl) rfl rfl rfl hS70 ?_
          refine RH.take 13 rfl (by kernel_rfl) rfl rfl rfl hS70 (fun W88 hW88 => Yl.pickT rfl rfl rfl) ?_
          refine RH.done (by kernel_rfl) ?_
          change CW _ _ _ _ _ _
          refine CW.condT rfl ?_
          refine CW.seq ?_
          refine CW.region ?_
          refine RW.yl rfl rfl rfl (Yl.build0 rfl rfl built24) ?_
          refine RW.stoAll (cs' := #[.slice none 0 0]) rfl rfl hK495 (Yu.storeAll rfl rfl rfl sz24 hK495 rfl (by simp [Value.oneCell'])) ?_
          intro w83 H59
          have hB83 := Bl.sto hB82 H59 lo_b5
          have hK496 := Blk.sto hK491 H59 ne7
          have hK497 := Blk.sto hK492 H59 ne8
          have hK498 := Blk.sto hK493 H59 ne9
          have hK499 := Blk.sto hK494 H59 ne10
          have hK500 := H59.blk
          have hz60 := H59.size
          refine RW.yl rfl rfl rfl (Yl.assign rfl rfl) ?_
          refine RW.nil ?_
          change CW _ _ _ _ _ _
          refine CW.ret ?_
          change FinQ _ _ _ _ _ _
          refine finC1 (.inr rfl) rfl rfl (run_loadVar_many (cs := [.slice none 0 0]) many24 (Blk.cells hK500)) rfl ?_
          have hcr : hidR c d i j = ([], 2) := by unfold hidR; first | (rw [if_neg (by first | assumption | omega)]; done) | (rw [if_pos (by first | assumption | omega), if_neg (by first | assumption | omega)]; done) | (rw [if_pos (by first | assumption | omega), if_pos (by first | assumption | omega), if_neg (by first | assumption | omega)]; done) | (rw [if_pos (by first | assumption | omega), if_pos (by first | assumption | omega), if_pos (by first | assumption | omega), if_neg (by first | assumption | omega)]; done) | (rw [if_pos (by first | assumption | omega), if_pos (by first | assumption | omega), if_pos (by first | assumption | omega), if_pos (by first | assumption | omega), if_neg (by first | assumption | omega)]; done) | (rw [if_pos (by first | assumption | omega), if_pos (by first | assumption | omega), if_pos (by first | assumption | omega), if_pos (by first | assumption | omega), if_pos (by first | assumption | omega)]; done)
          exact ⟨_, rfl, _, by rw [hcr], by rw [hcr]; exact Sl.nil _ _ _ _, hB83⟩))

theorem c33 {w : World} {v u : Value} {c d : List (List Int)} (hv : RRows 0 w.heap.size w v c) (hu : RRows 0 w.heap.size w u d) {i j : Int} :
    Calls Try.prog 33 #[.agg #[v], .agg #[u], .int .i64 i, .int .i64 j] w (Ret fun r w' => ∃ s, r = .tuple #[.agg #[s], .int .i64 (visR c d i j).2] ∧ RRows w.heap.size w'.heap.size w' s (visR c d i j).1 ∧ Below w.heap.size w w') := by
  obtain ⟨p, cc, rfl, hl⟩ := hv.form
  obtain ⟨p2, cd, rfl, hl2⟩ := hu.form
  have hB0 : Below w.heap.size w w := Below.refl _ _
  refine Ev.calls (l := [.agg #[.slice p c.length cc], .agg #[.slice p2 d.length cd], .int .i64 i, .int .i64 j]) Try.func33 rfl rfl rfl ?_
  change CW _ _ _ _ [(0, .agg #[.slice p c.length cc]), (1, .agg #[.slice p2 d.length cd]), (2, .int .i64 i), (3, .int .i64 j)] _
  refine CW.seq ?_
  refine CW.region ?_
  refine RW.newP (cs := #[.slice p c.length cc]) (T := 24) rfl rfl rfl (Yv.box (v := .agg #[.slice p c.length cc]) rfl rfl) ?_
  intro b1 w1 N1
  have lo_b1 : w.heap.size ≤ b1 := by have := hB0.size; have := N1.num; omega
  have hn_b1 := N1.num
  have hs_b1 := N1.size
  have hB1 := Bl.step hB0 N1.below
  refine RW.newP (cs := #[.slice p2 d.length cd]) (T := 24) rfl rfl rfl (Yv.box (v := .agg #[.slice p2 d.length cd]) rfl rfl) ?_
  intro b2 w2 N2
  have ne1 := New.ne N2 N1.blk
  have lo_b2 : w.heap.size ≤ b2 := by have := hB1.size; have := N2.num; omega
  have hn_b2 := N2.num
  have hs_b2 := N2.size
  have hB2 := Bl.step hB1 N2.below
  have hK1 := Blk.below N1.blk N2.below
  refine RW.newP (cs := #[.int .i64 i]) (T := 3) rfl rfl rfl (Yv.box (v := .int .i64 i) rfl rfl) ?_
  intro b3 w3 N3
  have ne2 := New.ne N3 hK1
  have ne3 := New.ne N3 N2.blk
  have lo_b3 : w.heap.size ≤ b3 := by have := hB2.size; have := N3.num; omega
  have hn_b3 := N3.num
  have hs_b3 := N3.size
  have hB3 := Bl.step hB2 N3.below
  have hK2 := Blk.below hK1 N3.below
  have hK3 := Blk.below N2.blk N3.below
  refine RW.newP (cs := #[.int .i64 j]) (T := 3) rfl rfl rfl (Yv.box (v := .int .i64 j) rfl rfl) ?_
  intro b4 w4 N4
  have ne4 := New.ne N4 hK2
  have ne5 := New.ne N4 hK3
  have ne6 := New.ne N4 N3.blk
  have lo_b4 : w.heap.size ≤ b4 := by have := hB3.size; have := N4.num; omega
  have hn_b4 := N4.num
  have hs_b4 := N4.size
  have hB4 := Bl.step hB3 N4.below
  have hK4 := Blk.below hK2 N4.below
  have hK5 := Blk.below hK3 N4.below
  have hK6 := Blk.below N3.blk N4.below
  refine RW.newP (cs := #[.slice none 0 0]) (T := 24) rfl rfl rfl (Yv.alloc (z := .agg #[.slice none 0 0]) rfl zero24) ?_
  intro b5 w5 N5
  have ne7 := New.ne N5 hK4
  have ne8 := New.ne N5 hK5
  have ne9 := New.ne N5 hK6
  have ne10 := New.ne N5 N4.blk
  have lo_b5 : w.heap.size ≤ b5 := by have := hB4.size; have := N5.num; omega
  have hn_b5 := N5.num
  have hs_b5 := N5.size
  have hB5 := Bl.step hB4 N5.below
  have hK7 := Blk.below hK4 N5.below
  have hK8 := Blk.below hK5 N5.below
  have hK9 := Blk.below hK6 N5.below
  have hK10 := Blk.below N4.blk N5.below
  refine RW.yl rfl rfl rfl (Yl.assign rfl rfl) ?_
  refine RW.nil ?_
  change CW _ _ _ _ _ _
  refine CW.seq ?_
  refine CW.seq ?_
  refine CW.region ?_
  refine RW.yl rfl rfl rfl (Yl.loadAgg (cs := [.slice p c.length cc]) rfl rfl many24 (Blk.cells hK7)) ?_
  refine RW.yl rfl rfl rfl (Yl.loadAgg (cs := [.slice p2 d.length cd]) rfl rfl many24 (Blk.cells hK8)) ?_
  refine RW.fn rfl rfl rfl (Yc.func #[.agg #[.slice p c.length cc], .agg #[.slice p2 d.length cd]] rfl ok39 (args2 rfl rfl)) (c39 ((hv.mono (kept_from hB0 hB5 (Nat.le_refl _))).wide (Nat.zero_le _) (by omega)) ((hu.mono (kept_from hB0 hB5 (Nat.le_refl _))).wide (Nat.zero_le _) (by omega))) ?_
  rintro _ w6 ⟨rfl, H1⟩
  have hB6 := Bl.step hB5 H1
  have hK11 := Blk.below hK7 H1
  have hK12 := Blk.below hK8 H1
  have hK13 := Blk.below hK9 H1
  have hK14 := Blk.below hK10 H1
  have hK15 := Blk.below N5.blk H1
  have hz1 := H1.size
  refine RW.yl rfl rfl rfl (Yl.assign rfl rfl) ?_
  refine RW.nil ?_
  change CW _ _ _ _ _ _
  refine CW.seq ?_
  refine CW.region ?_
  refine RW.yl rfl rfl rfl (Yl.move rfl rfl) ?_
  refine RW.yl rfl rfl rfl (Yl.neq rfl rfl rfl) ?_
  refine RW.nil ?_
  change CW _ _ _ _ _ _
  refine CW.cond rfl ?_ ?_
  ·
    intro hg1
    have hg2 : decide ((pairG c d) = 0) = false := not_t hg1
    have hq2 := of_decide_eq_false hg2
    first
    | (exfalso; omega)
    | (
      refine CW.seq ?_
      refine CW.region ?_
      refine RW.yl rfl rfl rfl (Yl.build0 rfl rfl built24) ?_
      refine RW.yl rfl rfl rfl (Yl.move rfl rfl) ?_
      refine RW.stoAll (cs' := #[.slice none 0 0]) rfl rfl hK15 (Yu.storeAll rfl rfl rfl sz24 hK15 rfl (by simp [Value.oneCell'])) ?_
      intro w7 H2
      have hB7 := Bl.sto hB6 H2 lo_b5
      have hK16 := Blk.sto hK11 H2 ne7
      have hK17 := Blk.sto hK12 H2 ne8
      have hK18 := Blk.sto hK13 H2 ne9
      have hK19 := Blk.sto hK14 H2 ne10
      have hK20 := H2.blk
      have hz2 := H2.size
      refine RW.yl rfl rfl rfl (Yl.assign rfl rfl) ?_
      refine RW.nil ?_
      change CW _ _ _ _ _ _
      refine CW.ret ?_
      change FinQ _ _ _ _ _ _
      refine finC1 (.inr rfl) rfl rfl (run_loadVar_many (cs := [.slice none 0 0]) many24 (Blk.cells hK20)) rfl ?_
      have hcr : visR c d i j = ([], pairG c d) := by unfold visR; first | (rw [if_neg (by first | assumption | omega)]; done) | (rw [if_pos (by first | assumption | omega), if_neg (by first | assumption | omega)]; done) | (rw [if_pos (by first | assumption | omega), if_pos (by first | assumption | omega), if_neg (by first | assumption | omega)]; done) | (rw [if_pos (by first | assumption | omega), if_pos (by first | assumption | omega), if_pos (by first | assumption | omega), if_neg (by first | assumption | omega)]; done) | (rw [if_pos (by first | assumption | omega), if_pos (by first | assumption | omega), if_pos (by first | assumption | omega), if_pos (by first | assumption | omega)]; done)
      exact ⟨_, rfl, _, by rw [hcr], by rw [hcr]; exact Sl.nil _ _ _ _, hB7⟩)
  ·
    intro hg3
    have hg4 : decide ((pairG c d) = 0) = true := not_f hg3
    have hq4 := of_decide_eq_true hg4
    have hvv := pairG_zero (of_decide_eq_true hg4)
    have hcc := validB_chan hvv.1
    have hcd := validB_chan hvv.2
    have htc := totG_bounds hvv.1
    have htd := totG_bounds hvv.2
    have hmm := mul_small ⟨htc.1, htc.2.1⟩ ⟨htd.1, htd.2.1⟩
    have q1 := hcc.r1
    have q2 := hcc.r2
    have q3 := hcc.c1
    have q4 := hcc.c2
    have q5 := hcd.r1
    have q6 := hcd.r2
    have q7 := hcd.c1
    have q8 := hcd.c2
    have q9 := Nat.mul_le_mul q4 q8
    first
    | (exfalso; omega)
    | (
      refine CW.skip ?_
      change CW _ _ _ _ _ _
      refine CW.seq ?_
      refine CW.seq ?_
      refine CW.region ?_
      refine RW.yl rfl rfl rfl (Yl.fieldAddr rfl rfl Try.underlying24 rfl sz22) ?_
      refine RW.yl rfl rfl rfl (Yl.load rfl rfl one22 (Blk.cell hK11 rfl)) ?_
      refine RW.yl rfl rfl rfl (Yl.len rfl rfl Try.underlying22) ?_
      refine RW.yl rfl rfl rfl (Yl.fieldAddr rfl rfl Try.underlying24 rfl sz22) ?_
      refine RW.yl rfl rfl rfl (Yl.load rfl rfl one22 (Blk.cell hK12 rfl)) ?_
      refine RW.yl rfl rfl rfl (Yl.len rfl rfl Try.underlying22) ?_
      refine RW.yl rfl rfl rfl (Yl.neq rfl rfl rfl) ?_
      refine RW.nil ?_
      change CW _ _ _ _ _ _
      refine CW.cond rfl ?_ ?_
      ·
        intro hg5
        have hg6 : decide (((c.length : Nat) : Int) = ((d.length : Nat) : Int)) = false := not_t hg5
        have hq6 := of_decide_eq_false hg6
        first
        | (exfalso; omega)
        | (
          refine CW.seq ?_
          refine CW.region ?_
          refine RW.yl rfl rfl rfl (Yl.build0 rfl rfl built24) ?_
          refine RW.stoAll (cs' := #[.slice none 0 0]) rfl rfl hK15 (Yu.storeAll rfl rfl rfl sz24 hK15 rfl (by simp [Value.oneCell'])) ?_
          intro w8 H3
          have hB8 := Bl.sto hB6 H3 lo_b5
          have hK21 := Blk.sto hK11 H3 ne7
          have hK22 := Blk.sto hK12 H3 ne8
          have hK23 := Blk.sto hK13 H3 ne9
          have hK24 := Blk.sto hK14 H3 ne10
          have hK25 := H3.blk
          have hz3 := H3.size
          refine RW.yl rfl rfl rfl (Yl.assign rfl rfl) ?_
          refine RW.nil ?_
          change CW _ _ _ _ _ _
          refine CW.ret ?_
          change FinQ _ _ _ _ _ _
          refine finC1 (.inr rfl) rfl rfl (run_loadVar_many (cs := [.slice none 0 0]) many24 (Blk.cells hK25)) rfl ?_
          have hcr : visR c d i j = ([], 2) := by unfold visR; first | (rw [if_neg (by first | assumption | omega)]; done) | (rw [if_pos (by first | assumption | omega), if_neg (by first | assumption | omega)]; done) | (rw [if_pos (by first | assumption | omega), if_pos (by first | assumption | omega), if_neg (by first | assumption | omega)]; done) | (rw [if_pos (by first | assumption | omega), if_pos (by first | assumption | omega), if_pos (by first | assumption | omega), if_neg (by first | assumption | omega)]; done) | (rw [if_pos (by first | assumption | omega), if_pos (by first | assumption | omega), if_pos (by first | assumption | omega), if_pos (by first | assumption | omega)]; done)
          exact ⟨_, rfl, _, by rw [hcr], by rw [hcr]; exact Sl.nil _ _ _ _, hB8⟩)
      ·
        intro hg7
        have hg8 : decide (((c.length : Nat) : Int) = ((d.length : Nat) : Int)) = true := not_f hg7
        have hq8 := of_decide_eq_true hg8
        first
        | (exfalso; omega)
        | (
          refine CW.skip ?_
          change CW _ _ _ _ _ _
          refine CW.seq ?_
          refine CW.seq ?_
          refine CW.region ?_
          refine RW.yl rfl rfl rfl (Yl.load rfl rfl one3 (Blk.cell hK13 rfl)) ?_
          refine RW.yl rfl rfl rfl (Yl.load rfl rfl one3 (Blk.cell hK14 rfl)) ?_
          refine RW.fn rfl rfl rfl (Yc.func #[.int .i64 i, .int .i64 j] rfl ok50 (args2 rfl rfl)) (c50) ?_
          rintro _ w9 ⟨rfl, H4⟩
          have hB9 := Bl.step hB6 H4
          have hK26 := Blk.below hK11 H4
          have hK27 := Blk.below hK12 H4
          have hK28 := Blk.below hK13 H4
          have hK29 := Blk.below hK14 H4
          have hK30 := Blk.below hK15 H4
          have hz4 := H4.size
          refine RW.yl rfl rfl rfl (Yl.not rfl rfl) ?_
          refine RW.nil ?_
          change CW _ _ _ _ _ _
          refine CW.cond rfl ?_ ?_
          ·
            intro hg9
            have hg10 : weightsB i j = false := not_t hg9
            have hw : ¬ weightsB i j = true := by rw [hg10]; decide
            first
            | (exfalso; omega)
            | (
              refine CW.seq ?_
              refine CW.region ?_
              refine RW.yl rfl rfl rfl (Yl.build0 rfl rfl built24) ?_
              refine RW.stoAll (cs' := #[.slice none 0 0]) rfl rfl hK30 (Yu.storeAll rfl rfl rfl sz24 hK30 rfl (by simp [Value.oneCell'])) ?_
              intro w10 H5
              have hB10 := Bl.sto hB9 H5 lo_b5
              have hK31 := Blk.sto hK26 H5 ne7
              have hK32 := Blk.sto hK27 H5 ne8
              have hK33 := Blk.sto hK28 H5 ne9
              have hK34 := Blk.sto hK29 H5 ne10
              have hK35 := H5.blk
              have hz5 := H5.size
              refine RW.yl rfl rfl rfl (Yl.assign rfl rfl) ?_
              refine RW.nil ?_
              change CW _ _ _ _ _ _
              refine CW.ret ?_
              change FinQ _ _ _ _ _ _
              refine finC1 (.inr rfl) rfl rfl (run_loadVar_many (cs := [.slice none 0 0]) many24 (Blk.cells hK35)) rfl ?_
              have hcr : visR c d i j = ([], 3) := by unfold visR; first | (rw [if_neg (by first | assumption | omega)]; done) | (rw [if_pos (by first | assumption | omega), if_neg (by first | assumption | omega)]; done) | (rw [if_pos (by first | assumption | omega), if_pos (by first | assumption | omega), if_neg (by first | assumption | omega)]; done) | (rw [if_pos (by first | assumption | omega), if_pos (by first | assumption | omega), if_pos (by first | assumption | omega), if_neg (by first | assumption | omega)]; done) | (rw [if_pos (by first | assumption | omega), if_pos (by first | assumption | omega), if_pos (by first | assumption | omega), if_pos (by first | assumption | omega)]; done)
              exact ⟨_, rfl, _, by rw [hcr], by rw [hcr]; exact Sl.nil _ _ _ _, hB10⟩)
          ·
            intro hg11
            have hg12 : weightsB i j = true := not_f hg11
            have hw := weightsB_yes hg12
            have hm1 : 0 ≤ (i + j) * totG c ∧ (i + j) * totG c ≤ 200 * 1048576 := mul_bound ⟨by omega, by omega⟩ ⟨htc.1, htc.2.1⟩
            have hm2 : 0 ≤ ((i + j) * totG c) * totG d ∧ ((i + j) * totG c) * totG d ≤ (200 * 1048576) * 1048576 := mul_bound hm1 ⟨htd.1, htd.2.1⟩
            first
            | (exfalso; omega)
            | (
              refine CW.skip ?_
              change CW _ _ _ _ _ _
              refine CW.seq ?_
              refine CW.cut (fun E W => ∃ nb11_z1 : Nat, ∃ nb12_z2 : Nat, (Sub [(4, .pointer (some ⟨b1, 0, none⟩)), (5, .pointer (some ⟨b2, 0, none⟩)), (6, .pointer (some ⟨b3, 0, none⟩)), (7, .pointer (some ⟨b4, 0, none⟩)), (8, .pointer (some ⟨b5, 0, none⟩)), (9, .int .i64 0), (11, .pointer (some ⟨nb11_z1, 0, none⟩)), (12, .pointer (some ⟨nb12_z2, 0, none⟩))] E) ∧ (Below w.heap.size w W) ∧ (Blk W b1 #[.slice p c.length cc] 24) ∧ (Blk W b2 #[.slice p2 d.length cd] 24) ∧ (Blk W b3 #[.int .i64 i] 3) ∧ (Blk W b4 #[.int .i64 j] 3) ∧ (Blk W b5 #[.slice none 0 0] 24) ∧ (Blk W nb11_z1 #[.int .i64 (totG c)] 3) ∧ (Blk W nb12_z2 #[.int .i64 (totG d)] 3) ∧ (w.heap.size ≤ nb11_z1) ∧ (w.heap.size ≤ nb12_z2) ∧ (b1 ≠ nb11_z1) ∧ (b2 ≠ nb11_z1) ∧ (b3 ≠ nb11_z1) ∧ (b4 ≠ nb11_z1) ∧ (b5 ≠ nb11_z1) ∧ (b1 ≠ nb12_z2) ∧ (b2 ≠ nb12_z2) ∧ (b3 ≠ nb12_z2) ∧ (b4 ≠ nb12_z2) ∧ (b5 ≠ nb12_z2) ∧ (nb11_z1 ≠ nb12_z2) ∧ (w9.heap.size ≤ W.heap.size)) ?_ ?_
              ·
                refine CW.draw 8 rfl (Kp []) (by kernel_rfl) ?_
                intro w11 H6
                have hB11 := Bl.step hB9 H6
                have hK36 := Blk.below hK26 H6
                have hK37 := Blk.below hK27 H6
                have hK38 := Blk.below hK28 H6
                have hK39 := Blk.below hK29 H6
                have hK40 := Blk.below hK30 H6
                have hz6 := H6.size
                have hS1 := Kp.refl [] w11
                refine RH.take 0 rfl (by kernel_rfl) rfl rfl rfl hS1 (fun W1 hW1 => Yl.loadAgg (cs := [.slice p c.length cc]) rfl rfl many24 (Blk.cells (Kp.blk hW1 hK36 (by simp)))) ?_
                refine RH.take 2 rfl (by kernel_rfl) rfl rfl rfl hS1 (fun W3 hW3 => Yl.loadAgg (cs := [.slice p2 d.length cd]) rfl rfl many24 (Blk.cells (Kp.blk hW3 hK37 (by simp)))) ?_
                refine RH.three 1 4 5 (by kernel_rfl) ?_ ?_ ?_
                ·
                  refine RO.fn rfl rfl rfl rfl (Yc.func #[.agg #[.slice p c.length cc]] rfl ok42 (args1 rfl)) (c42 ((hv.mono (kept_from hB0 hB11 (Nat.le_refl _))).wide (Nat.zero_le _) (by omega))) ?_
                  rintro _ w12 ⟨rfl, H7⟩
                  have hS2 := Kp.step hS1 H7
                  have hB12 := Bl.step hB11 H7
                  have hK41 := Blk.below hK36 H7
                  have hK42 := Blk.below hK37 H7
                  have hK43 := Blk.below hK38 H7
                  have hK44 := Blk.below hK39 H7
                  have hK45 := Blk.below hK40 H7
                  have hz7 := H7.size
                  refine ⟨hS2, ?_⟩
                  refine RH.three 3 4 5 (by kernel_rfl) ?_ ?_ ?_
                  ·
                    refine RO.fn rfl rfl rfl rfl (Yc.func #[.agg #[.slice p2 d.length cd]] rfl ok42 (args1 rfl)) (c42 ((hu.mono (kept_from hB0 hB12 (Nat.le_refl _))).wide (Nat.zero_le _) (by omega))) ?_
                    rintro _ w13 ⟨rfl, H8⟩
                    have hS3 := Kp.step hS2 H8
                    have hB13 := Bl.step hB12 H8
                    have hK46 := Blk.below hK41 H8
                    have hK47 := Blk.below hK42 H8
                    have hK48 := Blk.below hK43 H8
                    have hK49 := Blk.below hK44 H8
                    have hK50 := Blk.below hK45 H8
                    have hz8 := H8.size
                    refine ⟨hS3, ?_⟩
                    refine RH.two 4 5 (by kernel_rfl) ?_ ?_
                    ·
                      refine RO.newP rfl (cs := #[.int .i64 0]) (T := 3) rfl rfl rfl (Yv.alloc (z := .int .i64 0) rfl zero3) ?_
                      intro b6 w14 N6
                      have ne11 := New.ne N6 hK46
                      have ne12 := New.ne N6 hK47
                      have ne13 := New.ne N6 hK48
                      have ne14 := New.ne N6 hK49
                      have ne15 := New.ne N6 hK50
                      have lo_b6 : w.heap.size ≤ b6 := by have := hB13.size; have := N6.num; omega
                      have hn_b6 := N6.num
                      have hs_b6 := N6.size
                      have hS4 := Kp.step hS3 N6.below
                      have hB14 := Bl.step hB13 N6.below
                      have hK51 := Blk.below hK46 N6.below
                      have hK52 := Blk.below hK47 N6.below
                      have hK53 := Blk.below hK48 N6.below
                      have hK54 := Blk.below hK49 N6.below
                      have hK55 := Blk.below hK50 N6.below
                      refine ⟨hS4, ?_⟩
                      refine RH.one 5 (by kernel_rfl) ?_
                      refine RO.newP rfl (cs := #[.int .i64 0]) (T := 3) rfl rfl rfl (Yv.alloc (z := .int .i64 0) rfl zero3) ?_
                      intro b7 w15 N7
                      have ne16 := New.ne N7 hK51
                      have ne17 := New.ne N7 hK52
                      have ne18 := New.ne N7 hK53
                      have ne19 := New.ne N7 hK54
                      have ne20 := New.ne N7 hK55
                      have ne21 := New.ne N7 N6.blk
                      have lo_b7 : w.heap.size ≤ b7 := by have := hB14.size; have := N7.num; omega
                      have hn_b7 := N7.num
                      have hs_b7 := N7.size
                      have hS5 := Kp.step hS4 N7.below
                      have hB15 := Bl.step hB14 N7.below
                      have hK56 := Blk.below hK51 N7.below
                      have hK57 := Blk.below hK52 N7.below
                      have hK58 := Blk.below hK53 N7.below
                      have hK59 := Blk.below hK54 N7.below
                      have hK60 := Blk.below hK55 N7.below
                      have hK61 := Blk.below N6.blk N7.below
                      refine ⟨hS5, ?_⟩
                      refine RH.one 6 (by kernel_rfl) ?_
                      refine RO.sto rfl (v := .int .i64 (totG c)) (j := 0) rfl rfl hK61 (Yu.store rfl rfl rfl rfl rfl sz3 hK61 (by simp)) ?_
                      intro w16 H9
                      have hS6 := Kp.sto hS5 H9 (.inr (by omega))
                      have hB16 := Bl.sto hB15 H9 lo_b6
                      have hK62 := Blk.sto hK56 H9 ne11
                      have hK63 := Blk.sto hK57 H9 ne12
                      have hK64 := Blk.sto hK58 H9 ne13
                      have hK65 := Blk.sto hK59 H9 ne14
                      have hK66 := Blk.sto hK60 H9 ne15
                      have hK67 := H9.blk
                      have hK68 := Blk.sto N7.blk H9 ne21.symm
                      have hz9 := H9.size
                      refine ⟨hS6, ?_⟩
                      refine RH.one 7 (by kernel_rfl) ?_
                      refine RO.sto rfl (v := .int .i64 (totG d)) (j := 0) rfl rfl hK68 (Yu.store rfl rfl rfl rfl rfl sz3 hK68 (by simp)) ?_
                      intro w17 H10
                      have hS7 := Kp.sto hS6 H10 (.inr (by omega))
                      have hB17 := Bl.sto hB16 H10 lo_b7
                      have hK69 := Blk.sto hK62 H10 ne16
                      have hK70 := Blk.sto hK63 H10 ne17
                      have hK71 := Blk.sto hK64 H10 ne18
                      have hK72 := Blk.sto hK65 H10 ne19
                      have hK73 := Blk.sto hK66 H10 ne20
                      have hK74 := Blk.sto hK67 H10 ne21
                      have hK75 := H10.blk
                      have hz10 := H10.size
                      refine ⟨hS7, ?_⟩
                      refine RH.done (by kernel_rfl) ?_
                      exact ⟨b6, b7, Sub.cons rfl (Sub.cons rfl (Sub.cons rfl (Sub.cons rfl (Sub.cons rfl (Sub.cons rfl (Sub.cons rfl (Sub.cons rfl (Sub.nil)))))))), hB17, hK69, hK70, hK71, hK72, hK73, hK74, hK75, lo_b6, lo_b7, ne11, ne12, ne13, ne14, ne15, ne16, ne17, ne18, ne19, ne20, ne21, (by omega)⟩
                    ·
                      refine RO.newP rfl (cs := #[.int .i64 0]) (T := 3) rfl rfl rfl (Yv.alloc (z := .int .i64 0) rfl zero3) ?_
                      intro b8 w18 N8
                      have ne22 := New.ne N8 hK46
                      have ne23 := New.ne N8 hK47
                      have ne24 := New.ne N8 hK48
                      have ne25 := New.ne N8 hK49
                      have ne26 := New.ne N8 hK50
                      have lo_b8 : w.heap.size ≤ b8 := by have := hB13.size; have := N8.num; omega
                      have hn_b8 := N8.num
                      have hs_b8 := N8.size
                      have hS8 := Kp.step hS3 N8.below
                      have hB18 := Bl.step hB13 N8.below
                      have hK76 := Blk.below hK46 N8.below
                      have hK77 := Blk.below hK47 N8.below
                      have hK78 := Blk.below hK48 N8.below
                      have hK79 := Blk.below hK49 N8.below
                      have hK80 := Blk.below hK50 N8.below
                      refine ⟨hS8, ?_⟩
                      refine RH.one 4 (by kernel_rfl) ?_
                      refine RO.newP rfl (cs := #[.int .i64 0]) (T := 3) rfl rfl rfl (Yv.alloc (z := .int .i64 0) rfl zero3) ?_
                      intro b9 w19 N9
                      have ne27 := New.ne N9 hK76
                      have ne28 := New.ne N9 hK77
                      have ne29 := New.ne N9 hK78
                      have ne30 := New.ne N9 hK79
                      have ne31 := New.ne N9 hK80
                      have ne32 := New.ne N9 N8.blk
                      have lo_b9 : w.heap.size ≤ b9 := by have := hB18.size; have := N9.num; omega
                      have hn_b9 := N9.num
                      have hs_b9 := N9.size
                      have hS9 := Kp.step hS8 N9.below
                      have hB19 := Bl.step hB18 N9.below
                      have hK81 := Blk.below hK76 N9.below
                      have hK82 := Blk.below hK77 N9.below
                      have hK83 := Blk.below hK78 N9.below
                      have hK84 := Blk.below hK79 N9.below
                      have hK85 := Blk.below hK80 N9.below
                      have hK86 := Blk.below N8.blk N9.below
                      refine ⟨hS9, ?_⟩
                      refine RH.one 6 (by kernel_rfl) ?_
                      refine RO.sto rfl (v := .int .i64 (totG c)) (j := 0) rfl rfl N9.blk (Yu.store rfl rfl rfl rfl rfl sz3 N9.blk (by simp)) ?_
                      intro w20 H11
                      have hS10 := Kp.sto hS9 H11 (.inr (by omega))
                      have hB20 := Bl.sto hB19 H11 lo_b9
                      have hK87 := Blk.sto hK81 H11 ne27
                      have hK88 := Blk.sto hK82 H11 ne28
                      have hK89 := Blk.sto hK83 H11 ne29
                      have hK90 := Blk.sto hK84 H11 ne30
                      have hK91 := Blk.sto hK85 H11 ne31
                      have hK92 := Blk.sto hK86 H11 ne32
                      have hK93 := H11.blk
                      have hz11 := H11.size
                      refine ⟨hS10, ?_⟩
                      refine RH.one 7 (by kernel_rfl) ?_
                      refine RO.sto rfl (v := .int .i64 (totG d)) (j := 0) rfl rfl hK92 (Yu.store rfl rfl rfl rfl rfl sz3 hK92 (by simp)) ?_
                      intro w21 H12
                      have hS11 := Kp.sto hS10 H12 (.inr (by omega))
                      have hB21 := Bl.sto hB20 H12 lo_b8
                      have hK94 := Blk.sto hK87 H12 ne22
                      have hK95 := Blk.sto hK88 H12 ne23
                      have hK96 := Blk.sto hK89 H12 ne24
                      have hK97 := Blk.sto hK90 H12 ne25
                      have hK98 := Blk.sto hK91 H12 ne26
                      have hK99 := H12.blk
                      have hK100 := Blk.sto hK93 H12 ne32.symm
                      have hz12 := H12.size
                      refine ⟨hS11, ?_⟩
                      refine RH.done (by kernel_rfl) ?_
                      exact ⟨b9, b8, Sub.cons rfl (Sub.cons rfl (Sub.cons rfl (Sub.cons rfl (Sub.cons rfl (Sub.cons rfl (Sub.cons rfl (Sub.cons rfl (Sub.nil)))))))), hB21, hK94, hK95, hK96, hK97, hK98, hK100, hK99, lo_b9, lo_b8, ne27, ne28, ne29, ne30, ne31, ne22, ne23, ne24, ne25, ne26, ne32.symm, (by omega)⟩
                  ·
                    refine RO.newP rfl (cs := #[.int .i64 0]) (T := 3) rfl rfl rfl (Yv.alloc (z := .int .i64 0) rfl zero3) ?_
                    intro b10 w22 N10
                    have ne33 := New.ne N10 hK41
                    have ne34 := New.ne N10 hK42
                    have ne35 := New.ne N10 hK43
                    have ne36 := New.ne N10 hK44
                    have ne37 := New.ne N10 hK45
                    have lo_b10 : w.heap.size ≤ b10 := by have := hB12.size; have := N10.num; omega
                    have hn_b10 := N10.num
                    have hs_b10 := N10.size
                    have hS12 := Kp.step hS2 N10.below
                    have hB22 := Bl.step hB12 N10.below
                    have hK101 := Blk.below hK41 N10.below
                    have hK102 := Blk.below hK42 N10.below
                    have hK103 := Blk.below hK43 N10.below
                    have hK104 := Blk.below hK44 N10.below
                    have hK105 := Blk.below hK45 N10.below
                    refine ⟨hS12, ?_⟩
                    refine RH.two 3 5 (by kernel_rfl) ?_ ?_
                    ·
                      refine RO.fn rfl rfl rfl rfl (Yc.func #[.agg #[.slice p2 d.length cd]] rfl ok42 (args1 rfl)) (c42 ((hu.mono (kept_from hB0 hB22 (Nat.le_refl _))).wide (Nat.zero_le _) (by omega))) ?_
                      rintro _ w23 ⟨rfl, H13⟩
                      have hS13 := Kp.step hS12 H13
                      have hB23 := Bl.step hB22 H13
                      have hK106 := Blk.below hK101 H13
                      have hK107 := Blk.below hK102 H13
                      have hK108 := Blk.below hK103 H13
                      have hK109 := Blk.below hK104 H13
                      have hK110 := Blk.below hK105 H13
                      have hK111 := Blk.below N10.blk H13
                      have hz13 := H13.size
                      refine ⟨hS13, ?_⟩
                      refine RH.one 5 (by kernel_rfl) ?_
                      refine RO.newP rfl (cs := #[.int .i64 0]) (T := 3) rfl rfl rfl (Yv.alloc (z := .int .i64 0) rfl zero3) ?_
                      intro b11 w24 N11
                      have ne38 := New.ne N11 hK106
                      have ne39 := New.ne N11 hK107
                      have ne40 := New.ne N11 hK108
                      have ne41 := New.ne N11 hK109
                      have ne42 := New.ne N11 hK110
                      have ne43 := New.ne N11 hK111
                      have lo_b11 : w.heap.size ≤ b11 := by have := hB23.size; have := N11.num; omega
                      have hn_b11 := N11.num
                      have hs_b11 := N11.size
                      have hS14 := Kp.step hS13 N11.below
                      have hB24 := Bl.step hB23 N11.below
                      have hK112 := Blk.below hK106 N11.below
                      have hK113 := Blk.below hK107 N11.below
                      have hK114 := Blk.below hK108 N11.below
                      have hK115 := Blk.below hK109 N11.below
                      have hK116 := Blk.below hK110 N11.below
                      have hK117 := Blk.below hK111 N11.below
                      refine ⟨hS14, ?_⟩
                      refine RH.one 6 (by kernel_rfl) ?_
                      refine RO.sto rfl (v := .int .i64 (totG c)) (j := 0) rfl rfl hK117 (Yu.store rfl rfl rfl rfl rfl sz3 hK117 (by simp)) ?_
                      intro w25 H14
                      have hS15 := Kp.sto hS14 H14 (.inr (by omega))
                      have hB25 := Bl.sto hB24 H14 lo_b10
                      have hK118 := Blk.sto hK112 H14 ne33
                      have hK119 := Blk.sto hK113 H14 ne34
                      have hK120 := Blk.sto hK114 H14 ne35
                      have hK121 := Blk.sto hK115 H14 ne36
                      have hK122 := Blk.sto hK116 H14 ne37
                      have hK123 := H14.blk
                      have hK124 := Blk.sto N11.blk H14 ne43.symm
                      have hz14 := H14.size
                      refine ⟨hS15, ?_⟩
                      refine RH.one 7 (by kernel_rfl) ?_
                      refine RO.sto rfl (v := .int .i64 (totG d)) (j := 0) rfl rfl hK124 (Yu.store rfl rfl rfl rfl rfl sz3 hK124 (by simp)) ?_
                      intro w26 H15
                      have hS16 := Kp.sto hS15 H15 (.inr (by omega))
                      have hB26 := Bl.sto hB25 H15 lo_b11
                      have hK125 := Blk.sto hK118 H15 ne38
                      have hK126 := Blk.sto hK119 H15 ne39
                      have hK127 := Blk.sto hK120 H15 ne40
                      have hK128 := Blk.sto hK121 H15 ne41
                      have hK129 := Blk.sto hK122 H15 ne42
                      have hK130 := Blk.sto hK123 H15 ne43
                      have hK131 := H15.blk
                      have hz15 := H15.size
                      refine ⟨hS16, ?_⟩
                      refine RH.done (by kernel_rfl) ?_
                      exact ⟨b10, b11, Sub.cons rfl (Sub.cons rfl (Sub.cons rfl (Sub.cons rfl (Sub.cons rfl (Sub.cons rfl (Sub.cons rfl (Sub.cons rfl (Sub.nil)))))))), hB26, hK125, hK126, hK127, hK128, hK129, hK130, hK131, lo_b10, lo_b11, ne33, ne34, ne35, ne36, ne37, ne38, ne39, ne40, ne41, ne42, ne43, (by omega)⟩
                    ·
                      refine RO.newP rfl (cs := #[.int .i64 0]) (T := 3) rfl rfl rfl (Yv.alloc (z := .int .i64 0) rfl zero3) ?_
                      intro b12 w27 N12
                      have ne44 := New.ne N12 hK101
                      have ne45 := New.ne N12 hK102
                      have ne46 := New.ne N12 hK103
                      have ne47 := New.ne N12 hK104
                      have ne48 := New.ne N12 hK105
                      have ne49 := New.ne N12 N10.blk
                      have lo_b12 : w.heap.size ≤ b12 := by have := hB22.size; have := N12.num; omega
                      have hn_b12 := N12.num
                      have hs_b12 := N12.size
                      have hS17 := Kp.step hS12 N12.below
                      have hB27 := Bl.step hB22 N12.below
                      have hK132 := Blk.below hK101 N12.below
                      have hK133 := Blk.below hK102 N12.below
                      have hK134 := Blk.below hK103 N12.below
                      have hK135 := Blk.below hK104 N12.below
                      have hK136 := Blk.below hK105 N12.below
                      have hK137 := Blk.below N10.blk N12.below
                      refine ⟨hS17, ?_⟩
                      refine RH.one 3 (by kernel_rfl) ?_
                      refine RO.fn rfl rfl rfl rfl (Yc.func #[.agg #[.slice p2 d.length cd]] rfl ok42 (args1 rfl)) (c42 ((hu.mono (kept_from hB0 hB27 (Nat.le_refl _))).wide (Nat.zero_le _) (by omega))) ?_
                      rintro _ w28 ⟨rfl, H16⟩
                      have hS18 := Kp.step hS17 H16
                      have hB28 := Bl.step hB27 H16
                      have hK138 := Blk.below hK132 H16
                      have hK139 := Blk.below hK133 H16
                      have hK140 := Blk.below hK134 H16
                      have hK141 := Blk.below hK135 H16
                      have hK142 := Blk.below hK136 H16
                      have hK143 := Blk.below hK137 H16
                      have hK144 := Blk.below N12.blk H16
                      have hz16 := H16.size
                      refine ⟨hS18, ?_⟩
                      refine RH.one 6 (by kernel_rfl) ?_
                      refine RO.sto rfl (v := .int .i64 (totG c)) (j := 0) rfl rfl hK143 (Yu.store rfl rfl rfl rfl rfl sz3 hK143 (by simp)) ?_
                      intro w29 H17
                      have hS19 := Kp.sto hS18 H17 (.inr (by omega))
                      have hB29 := Bl.sto hB28 H17 lo_b10
                      have hK145 := Blk.sto hK138 H17 ne33
                      have hK146 := Blk.sto hK139 H17 ne34
                      have hK147 := Blk.sto hK140 H17 ne35
                      have hK148 := Blk.sto hK141 H17 ne36
                      have hK149 := Blk.sto hK142 H17 ne37
                      have hK150 := H17.blk
                      have hK151 := Blk.sto hK144 H17 ne49.symm
                      have hz17 := H17.size
                      refine ⟨hS19, ?_⟩
                      refine RH.one 7 (by kernel_rfl) ?_
                      refine RO.sto rfl (v := .int .i64 (totG d)) (j := 0) rfl rfl hK151 (Yu.store rfl rfl rfl rfl rfl sz3 hK151 (by simp)) ?_
                      intro w30 H18
                      have hS20 := Kp.sto hS19 H18 (.inr (by omega))
                      have hB30 := Bl.sto hB29 H18 lo_b12
                      have hK152 := Blk.sto hK145 H18 ne44
                      have hK153 := Blk.sto hK146 H18 ne45
                      have hK154 := Blk.sto hK147 H18 ne46
                      have hK155 := Blk.sto hK148 H18 ne47
                      have hK156 := Blk.sto hK149 H18 ne48
                      have hK157 := Blk.sto hK150 H18 ne49
                      have hK158 := H18.blk
                      have hz18 := H18.size
                      refine ⟨hS20, ?_⟩
                      refine RH.done (by kernel_rfl) ?_
                      exact ⟨b10, b12, Sub.cons rfl (Sub.cons rfl (Sub.cons rfl (Sub.cons rfl (Sub.cons rfl (Sub.cons rfl (Sub.cons rfl (Sub.cons rfl (Sub.nil)))))))), hB30, hK152, hK153, hK154, hK155, hK156, hK157, hK158, lo_b10, lo_b12, ne33, ne34, ne35, ne36, ne37, ne44, ne45, ne46, ne47, ne48, ne49, (by omega)⟩
                  ·
                    refine RO.newP rfl (cs := #[.int .i64 0]) (T := 3) rfl rfl rfl (Yv.alloc (z := .int .i64 0) rfl zero3) ?_
                    intro b13 w31 N13
                    have ne50 := New.ne N13 hK41
                    have ne51 := New.ne N13 hK42
                    have ne52 := New.ne N13 hK43
                    have ne53 := New.ne N13 hK44
                    have ne54 := New.ne N13 hK45
                    have lo_b13 : w.heap.size ≤ b13 := by have := hB12.size; have := N13.num; omega
                    have hn_b13 := N13.num
                    have hs_b13 := N13.size
                    have hS21 := Kp.step hS2 N13.below
                    have hB31 := Bl.step hB12 N13.below
                    have hK159 := Blk.below hK41 N13.below
                    have hK160 := Blk.below hK42 N13.below
                    have hK161 := Blk.below hK43 N13.below
                    have hK162 := Blk.below hK44 N13.below
                    have hK163 := Blk.below hK45 N13.below
                    refine ⟨hS21, ?_⟩
                    refine RH.two 3 4 (by kernel_rfl) ?_ ?_
                    ·
                      refine RO.fn rfl rfl rfl rfl (Yc.func #[.agg #[.slice p2 d.length cd]] rfl ok42 (args1 rfl)) (c42 ((hu.mono (kept_from hB0 hB31 (Nat.le_refl _))).wide (Nat.zero_le _) (by omega))) ?_
                      rintro _ w32 ⟨rfl, H19⟩
                      have hS22 := Kp.step hS21 H19
                      have hB32 := Bl.step hB31 H19
                      have hK164 := Blk.below hK159 H19
                      have hK165 := Blk.below hK160 H19
                      have hK166 := Blk.below hK161 H19
                      have hK167 := Blk.below hK162 H19
                      have hK168 := Blk.below hK163 H19
                      have hK169 := Blk.below N13.blk H19
                      have hz19 := H19.size
                      refine ⟨hS22, ?_⟩
                      refine RH.one 4 (by kernel_rfl) ?_
                      refine RO.newP rfl (cs := #[.int .i64 0]) (T := 3) rfl rfl rfl (Yv.alloc (z := .int .i64 0) rfl zero3) ?_
                      intro b14 w33 N14
                      have ne55 := New.ne N14 hK164
                      have ne56 := New.ne N14 hK165
                      have ne57 := New.ne N14 hK166
                      have ne58 := New.ne N14 hK167
                      have ne59 := New.ne N14 hK168
                      have ne60 := New.ne N14 hK169
                      have lo_b14 : w.heap.size ≤ b14 := by have := hB32.size; have := N14.num; omega
                      have hn_b14 := N14.num
                      have hs_b14 := N14.size
                      have hS23 := Kp.step hS22 N14.below
                      have hB33 := Bl.step hB32 N14.below
                      have hK170 := Blk.below hK164 N14.below
                      have hK171 := Blk.below hK165 N14.below
                      have hK172 := Blk.below hK166 N14.below
                      have hK173 := Blk.below hK167 N14.below
                      have hK174 := Blk.below hK168 N14.below
                      have hK175 := Blk.below hK169 N14.below
                      refine ⟨hS23, ?_⟩
                      refine RH.one 6 (by kernel_rfl) ?_
                      refine RO.sto rfl (v := .int .i64 (totG c)) (j := 0) rfl rfl N14.blk (Yu.store rfl rfl rfl rfl rfl sz3 N14.blk (by simp)) ?_
                      intro w34 H20
                      have hS24 := Kp.sto hS23 H20 (.inr (by omega))
                      have hB34 := Bl.sto hB33 H20 lo_b14
                      have hK176 := Blk.sto hK170 H20 ne55
                      have hK177 := Blk.sto hK171 H20 ne56
                      have hK178 := Blk.sto hK172 H20 ne57
                      have hK179 := Blk.sto hK173 H20 ne58
                      have hK180 := Blk.sto hK174 H20 ne59
                      have hK181 := Blk.sto hK175 H20 ne60
                      have hK182 := H20.blk
                      have hz20 := H20.size
                      refine ⟨hS24, ?_⟩
                      refine RH.one 7 (by kernel_rfl) ?_
                      refine RO.sto rfl (v := .int .i64 (totG d)) (j := 0) rfl rfl hK181 (Yu.store rfl rfl rfl rfl rfl sz3 hK181 (by simp)) ?_
                      intro w35 H21
                      have hS25 := Kp.sto hS24 H21 (.inr (by omega))
                      have hB35 := Bl.sto hB34 H21 lo_b13
                      have hK183 := Blk.sto hK176 H21 ne50
                      have hK184 := Blk.sto hK177 H21 ne51
                      have hK185 := Blk.sto hK178 H21 ne52
                      have hK186 := Blk.sto hK179 H21 ne53
                      have hK187 := Blk.sto hK180 H21 ne54
                      have hK188 := H21.blk
                      have hK189 := Blk.sto hK182 H21 ne60.symm
                      have hz21 := H21.size
                      refine ⟨hS25, ?_⟩
                      refine RH.done (by kernel_rfl) ?_
                      exact ⟨b14, b13, Sub.cons rfl (Sub.cons rfl (Sub.cons rfl (Sub.cons rfl (Sub.cons rfl (Sub.cons rfl (Sub.cons rfl (Sub.cons rfl (Sub.nil)))))))), hB35, hK183, hK184, hK185, hK186, hK187, hK189, hK188, lo_b14, lo_b13, ne55, ne56, ne57, ne58, ne59, ne50, ne51, ne52, ne53, ne54, ne60.symm, (by omega)⟩
                    ·
                      refine RO.newP rfl (cs := #[.int .i64 0]) (T := 3) rfl rfl rfl (Yv.alloc (z := .int .i64 0) rfl zero3) ?_
                      intro b15 w36 N15
                      have ne61 := New.ne N15 hK159
                      have ne62 := New.ne N15 hK160
                      have ne63 := New.ne N15 hK161
                      have ne64 := New.ne N15 hK162
                      have ne65 := New.ne N15 hK163
                      have ne66 := New.ne N15 N13.blk
                      have lo_b15 : w.heap.size ≤ b15 := by have := hB31.size; have := N15.num; omega
                      have hn_b15 := N15.num
                      have hs_b15 := N15.size
                      have hS26 := Kp.step hS21 N15.below
                      have hB36 := Bl.step hB31 N15.below
                      have hK190 := Blk.below hK159 N15.below
                      have hK191 := Blk.below hK160 N15.below
                      have hK192 := Blk.below hK161 N15.below
                      have hK193 := Blk.below hK162 N15.below
                      have hK194 := Blk.below hK163 N15.below
                      have hK195 := Blk.below N13.blk N15.below
                      refine ⟨hS26, ?_⟩
                      refine RH.one 3 (by kernel_rfl) ?_
                      refine RO.fn rfl rfl rfl rfl (Yc.func #[.agg #[.slice p2 d.length cd]] rfl ok42 (args1 rfl)) (c42 ((hu.mono (kept_from hB0 hB36 (Nat.le_refl _))).wide (Nat.zero_le _) (by omega))) ?_
                      rintro _ w37 ⟨rfl, H22⟩
                      have hS27 := Kp.step hS26 H22
                      have hB37 := Bl.step hB36 H22
                      have hK196 := Blk.below hK190 H22
                      have hK197 := Blk.below hK191 H22
                      have hK198 := Blk.below hK192 H22
                      have hK199 := Blk.below hK193 H22
                      have hK200 := Blk.below hK194 H22
                      have hK201 := Blk.below hK195 H22
                      have hK202 := Blk.below N15.blk H22
                      have hz22 := H22.size
                      refine ⟨hS27, ?_⟩
                      refine RH.one 6 (by kernel_rfl) ?_
                      refine RO.sto rfl (v := .int .i64 (totG c)) (j := 0) rfl rfl hK202 (Yu.store rfl rfl rfl rfl rfl sz3 hK202 (by simp)) ?_
                      intro w38 H23
                      have hS28 := Kp.sto hS27 H23 (.inr (by omega))
                      have hB38 := Bl.sto hB37 H23 lo_b15
                      have hK203 := Blk.sto hK196 H23 ne61
                      have hK204 := Blk.sto hK197 H23 ne62
                      have hK205 := Blk.sto hK198 H23 ne63
                      have hK206 := Blk.sto hK199 H23 ne64
                      have hK207 := Blk.sto hK200 H23 ne65
                      have hK208 := Blk.sto hK201 H23 ne66
                      have hK209 := H23.blk
                      have hz23 := H23.size
                      refine ⟨hS28, ?_⟩
                      refine RH.one 7 (by kernel_rfl) ?_
                      refine RO.sto rfl (v := .int .i64 (totG d)) (j := 0) rfl rfl hK208 (Yu.store rfl rfl rfl rfl rfl sz3 hK208 (by simp)) ?_
                      intro w39 H24
                      have hS29 := Kp.sto hS28 H24 (.inr (by omega))
                      have hB39 := Bl.sto hB38 H24 lo_b13
                      have hK210 := Blk.sto hK203 H24 ne50
                      have hK211 := Blk.sto hK204 H24 ne51
                      have hK212 := Blk.sto hK205 H24 ne52
                      have hK213 := Blk.sto hK206 H24 ne53
                      have hK214 := Blk.sto hK207 H24 ne54
                      have hK215 := H24.blk
                      have hK216 := Blk.sto hK209 H24 ne66.symm
                      have hz24 := H24.size
                      refine ⟨hS29, ?_⟩
                      refine RH.done (by kernel_rfl) ?_
                      exact ⟨b15, b13, Sub.cons rfl (Sub.cons rfl (Sub.cons rfl (Sub.cons rfl (Sub.cons rfl (Sub.cons rfl (Sub.cons rfl (Sub.cons rfl (Sub.nil)))))))), hB39, hK210, hK211, hK212, hK213, hK214, hK216, hK215, lo_b15, lo_b13, ne61, ne62, ne63, ne64, ne65, ne50, ne51, ne52, ne53, ne54, ne66.symm, (by omega)⟩
                ·
                  refine RO.newP rfl (cs := #[.int .i64 0]) (T := 3) rfl rfl rfl (Yv.alloc (z := .int .i64 0) rfl zero3) ?_
                  intro b16 w40 N16
                  have ne67 := New.ne N16 hK36
                  have ne68 := New.ne N16 hK37
                  have ne69 := New.ne N16 hK38
                  have ne70 := New.ne N16 hK39
                  have ne71 := New.ne N16 hK40
                  have lo_b16 : w.heap.size ≤ b16 := by have := hB11.size; have := N16.num; omega
                  have hn_b16 := N16.num
                  have hs_b16 := N16.size
                  have hS30 := Kp.step hS1 N16.below
                  have hB40 := Bl.step hB11 N16.below
                  have hK217 := Blk.below hK36 N16.below
                  have hK218 := Blk.below hK37 N16.below
                  have hK219 := Blk.below hK38 N16.below
                  have hK220 := Blk.below hK39 N16.below
                  have hK221 := Blk.below hK40 N16.below
                  refine ⟨hS30, ?_⟩
                  refine RH.two 1 5 (by kernel_rfl) ?_ ?_
                  ·
                    refine RO.fn rfl rfl rfl rfl (Yc.func #[.agg #[.slice p c.length cc]] rfl ok42 (args1 rfl)) (c42 ((hv.mono (kept_from hB0 hB40 (Nat.le_refl _))).wide (Nat.zero_le _) (by omega))) ?_
                    rintro _ w41 ⟨rfl, H25⟩
                    have hS31 := Kp.step hS30 H25
                    have hB41 := Bl.step hB40 H25
                    have hK222 := Blk.below hK217 H25
                    have hK223 := Blk.below hK218 H25
                    have hK224 := Blk.below hK219 H25
                    have hK225 := Blk.below hK220 H25
                    have hK226 := Blk.below hK221 H25
                    have hK227 := Blk.below N16.blk H25
                    have hz25 := H25.size
                    refine ⟨hS31, ?_⟩
                    refine RH.two 3 5 (by kernel_rfl) ?_ ?_
                    ·
                      refine RO.fn rfl rfl rfl rfl (Yc.func #[.agg #[.slice p2 d.length cd]] rfl ok42 (args1 rfl)) (c42 ((hu.mono (kept_from hB0 hB41 (Nat.le_refl _))).wide (Nat.zero_le _) (by omega))) ?_
                      rintro _ w42 ⟨rfl, H26⟩
                      have hS32 := Kp.step hS31 H26
                      have hB42 := Bl.step hB41 H26
                      have hK228 := Blk.below hK222 H26
                      have hK229 := Blk.below hK223 H26
                      have hK230 := Blk.below hK224 H26
                      have hK231 := Blk.below hK225 H26
                      have hK232 := Blk.below hK226 H26
                      have hK233 := Blk.below hK227 H26
                      have hz26 := H26.size
                      refine ⟨hS32, ?_⟩
                      refine RH.one 5 (by kernel_rfl) ?_
                      refine RO.newP rfl (cs := #[.int .i64 0]) (T := 3) rfl rfl rfl (Yv.alloc (z := .int .i64 0) rfl zero3) ?_
                      intro b17 w43 N17
                      have ne72 := New.ne N17 hK228
                      have ne73 := New.ne N17 hK229
                      have ne74 := New.ne N17 hK230
                      have ne75 := New.ne N17 hK231
                      have ne76 := New.ne N17 hK232
                      have ne77 := New.ne N17 hK233
                      have lo_b17 : w.heap.size ≤ b17 := by have := hB42.size; have := N17.num; omega
                      have hn_b17 := N17.num
                      have hs_b17 := N17.size
                      have hS33 := Kp.step hS32 N17.below
                      have hB43 := Bl.step hB42 N17.below
                      have hK234 := Blk.below hK228 N17.below
                      have hK235 := Blk.below hK229 N17.below
                      have hK236 := Blk.below hK230 N17.below
                      have hK237 := Blk.below hK231 N17.below
                      have hK238 := Blk.below hK232 N17.below
                      have hK239 := Blk.below hK233 N17.below
                      refine ⟨hS33, ?_⟩
                      refine RH.one 6 (by kernel_rfl) ?_
                      refine RO.sto rfl (v := .int .i64 (totG c)) (j := 0) rfl rfl hK239 (Yu.store rfl rfl rfl rfl rfl sz3 hK239 (by simp)) ?_
                      intro w44 H27
                      have hS34 := Kp.sto hS33 H27 (.inr (by omega))
                      have hB44 := Bl.sto hB43 H27 lo_b16
                      have hK240 := Blk.sto hK234 H27 ne67
                      have hK241 := Blk.sto hK235 H27 ne68
                      have hK242 := Blk.sto hK236 H27 ne69
                      have hK243 := Blk.sto hK237 H27 ne70
                      have hK244 := Blk.sto hK238 H27 ne71
                      have hK245 := H27.blk
                      have hK246 := Blk.sto N17.blk H27 ne77.symm
                      have hz27 := H27.size
                      refine ⟨hS34, ?_⟩
                      refine RH.one 7 (by kernel_rfl) ?_
                      refine RO.sto rfl (v := .int .i64 (totG d)) (j := 0) rfl rfl hK246 (Yu.store rfl rfl rfl rfl rfl sz3 hK246 (by simp)) ?_
                      intro w45 H28
                      have hS35 := Kp.sto hS34 H28 (.inr (by omega))
                      have hB45 := Bl.sto hB44 H28 lo_b17
                      have hK247 := Blk.sto hK240 H28 ne72
                      have hK248 := Blk.sto hK241 H28 ne73
                      have hK249 := Blk.sto hK242 H28 ne74
                      have hK250 := Blk.sto hK243 H28 ne75
                      have hK251 := Blk.sto hK244 H28 ne76
                      have hK252 := Blk.sto hK245 H28 ne77
                      have hK253 := H28.blk
                      have hz28 := H28.size
                      refine ⟨hS35, ?_⟩
                      refine RH.done (by kernel_rfl) ?_
                      exact ⟨b16, b17, Sub.cons rfl (Sub.cons rfl (Sub.cons rfl (Sub.cons rfl (Sub.cons rfl (Sub.cons rfl (Sub.cons rfl (Sub.cons rfl (Sub.nil)))))))), hB45, hK247, hK248, hK249, hK250, hK251, hK252, hK253, lo_b16, lo_b17, ne67, ne68, ne69, ne70, ne71, ne72, ne73, ne74, ne75, ne76, ne77, (by omega)⟩
                    ·
                      refine RO.newP rfl (cs := #[.int .i64 0]) (T := 3) rfl rfl rfl (Yv.alloc (z := .int .i64 0) rfl zero3) ?_
                      intro b18 w46 N18
                      have ne78 := New.ne N18 hK222
                      have ne79 := New.ne N18 hK223
                      have ne80 := New.ne N18 hK224
                      have ne81 := New.ne N18 hK225
                      have ne82 := New.ne N18 hK226
                      have ne83 := New.ne N18 hK227
                      have lo_b18 : w.heap.size ≤ b18 := by have := hB41.size; have := N18.num; omega
                      have hn_b18 := N18.num
                      have hs_b18 := N18.size
                      have hS36 := Kp.step hS31 N18.below
                      have hB46 := Bl.step hB41 N18.below
                      have hK254 := Blk.below hK222 N18.below
                      have hK255 := Blk.below hK223 N18.below
                      have hK256 := Blk.below hK224 N18.below
                      have hK257 := Blk.below hK225 N18.below
                      have hK258 := Blk.below hK226 N18.below
                      have hK259 := Blk.below hK227 N18.below
                      refine ⟨hS36, ?_⟩
                      refine RH.one 3 (by kernel_rfl) ?_
                      refine RO.fn rfl rfl rfl rfl (Yc.func #[.agg #[.slice p2 d.length cd]] rfl ok42 (args1 rfl)) (c42 ((hu.mono (kept_from hB0 hB46 (Nat.le_refl _))).wide (Nat.zero_le _) (by omega))) ?_
                      rintro _ w47 ⟨rfl, H29⟩
                      have hS37 := Kp.step hS36 H29
                      have hB47 := Bl.step hB46 H29
                      have hK260 := Blk.below hK254 H29
                      have hK261 := Blk.below hK255 H29
                      have hK262 := Blk.below hK256 H29
                      have hK263 := Blk.below hK257 H29
                      have hK264 := Blk.below hK258 H29
                      have hK265 := Blk.below hK259 H29
                      have hK266 := Blk.below N18.blk H29
                      have hz29 := H29.size
                      refine ⟨hS37, ?_⟩
                      refine RH.one 6 (by kernel_rfl) ?_
                      refine RO.sto rfl (v := .int .i64 (totG c)) (j := 0) rfl rfl hK265 (Yu.store rfl rfl rfl rfl rfl sz3 hK265 (by simp)) ?_
                      intro w48 H30
                      have hS38 := Kp.sto hS37 H30 (.inr (by omega))
                      have hB48 := Bl.sto hB47 H30 lo_b16
                      have hK267 := Blk.sto hK260 H30 ne67
                      have hK268 := Blk.sto hK261 H30 ne68
                      have hK269 := Blk.sto hK262 H30 ne69
                      have hK270 := Blk.sto hK263 H30 ne70
                      have hK271 := Blk.sto hK264 H30 ne71
                      have hK272 := H30.blk
                      have hK273 := Blk.sto hK266 H30 ne83.symm
                      have hz30 := H30.size
                      refine ⟨hS38, ?_⟩
                      refine RH.one 7 (by kernel_rfl) ?_
                      refine RO.sto rfl (v := .int .i64 (totG d)) (j := 0) rfl rfl hK273 (Yu.store rfl rfl rfl rfl rfl sz3 hK273 (by simp)) ?_
                      intro w49 H31
                      have hS39 := Kp.sto hS38 H31 (.inr (by omega))
                      have hB49 := Bl.sto hB48 H31 lo_b18
                      have hK274 := Blk.sto hK267 H31 ne78
                      have hK275 := Blk.sto hK268 H31 ne79
                      have hK276 := Blk.sto hK269 H31 ne80
                      have hK277 := Blk.sto hK270 H31 ne81
                      have hK278 := Blk.sto hK271 H31 ne82
                      have hK279 := Blk.sto hK272 H31 ne83
                      have hK280 := H31.blk
                      have hz31 := H31.size
                      refine ⟨hS39, ?_⟩
                      refine RH.done (by kernel_rfl) ?_
                      exact ⟨b16, b18, Sub.cons rfl (Sub.cons rfl (Sub.cons rfl (Sub.cons rfl (Sub.cons rfl (Sub.cons rfl (Sub.cons rfl (Sub.cons rfl (Sub.nil)))))))), hB49, hK274, hK275, hK276, hK277, hK278, hK279, hK280, lo_b16, lo_b18, ne67, ne68, ne69, ne70, ne71, ne78, ne79, ne80, ne81, ne82, ne83, (by omega)⟩
                  ·
                    refine RO.newP rfl (cs := #[.int .i64 0]) (T := 3) rfl rfl rfl (Yv.alloc (z := .int .i64 0) rfl zero3) ?_
                    intro b19 w50 N19
                    have ne84 := New.ne N19 hK217
                    have ne85 := New.ne N19 hK218
                    have ne86 := New.ne N19 hK219
                    have ne87 := New.ne N19 hK220
                    have ne88 := New.ne N19 hK221
                    have ne89 := New.ne N19 N16.blk
                    have lo_b19 : w.heap.size ≤ b19 := by have := hB40.size; have := N19.num; omega
                    have hn_b19 := N19.num
                    have hs_b19 := N19.size
                    have hS40 := Kp.step hS30 N19.below
                    have hB50 := Bl.step hB40 N19.below
                    have hK281 := Blk.below hK217 N19.below
                    have hK282 := Blk.below hK218 N19.below
                    have hK283 := Blk.below hK219 N19.below
                    have hK284 := Blk.below hK220 N19.below
                    have hK285 := Blk.below hK221 N19.below
                    have hK286 := Blk.below N16.blk N19.below
                    refine ⟨hS40, ?_⟩
                    refine RH.one 1 (by kernel_rfl) ?_
                    refine RO.fn rfl rfl rfl rfl (Yc.func #[.agg #[.slice p c.length cc]] rfl ok42 (args1 rfl)) (c42 ((hv.mono (kept_from hB0 hB50 (Nat.le_refl _))).wide (Nat.zero_le _) (by omega))) ?_
                    rintro _ w51 ⟨rfl, H32⟩
                    have hS41 := Kp.step hS40 H32
                    have hB51 := Bl.step hB50 H32
                    have hK287 := Blk.below hK281 H32
                    have hK288 := Blk.below hK282 H32
                    have hK289 := Blk.below hK283 H32
                    have hK290 := Blk.below hK284 H32
                    have hK291 := Blk.below hK285 H32
                    have hK292 := Blk.below hK286 H32
                    have hK293 := Blk.below N19.blk H32
                    have hz32 := H32.size
                    refine ⟨hS41, ?_⟩
                    refine RH.one 3 (by kernel_rfl) ?_
                    refine RO.fn rfl rfl rfl rfl (Yc.func #[.agg #[.slice p2 d.length cd]] rfl ok42 (args1 rfl)) (c42 ((hu.mono (kept_from hB0 hB51 (Nat.le_refl _))).wide (Nat.zero_le _) (by omega))) ?_
                    rintro _ w52 ⟨rfl, H33⟩
                    have hS42 := Kp.step hS41 H33
                    have hB52 := Bl.step hB51 H33
                    have hK294 := Blk.below hK287 H33
                    have hK295 := Blk.below hK288 H33
                    have hK296 := Blk.below hK289 H33
                    have hK297 := Blk.below hK290 H33
                    have hK298 := Blk.below hK291 H33
                    have hK299 := Blk.below hK292 H33
                    have hK300 := Blk.below hK293 H33
                    have hz33 := H33.size
                    refine ⟨hS42, ?_⟩
                    refine RH.one 6 (by kernel_rfl) ?_
                    refine RO.sto rfl (v := .int .i64 (totG c)) (j := 0) rfl rfl hK299 (Yu.store rfl rfl rfl rfl rfl sz3 hK299 (by simp)) ?_
                    intro w53 H34
                    have hS43 := Kp.sto hS42 H34 (.inr (by omega))
                    have hB53 := Bl.sto hB52 H34 lo_b16
                    have hK301 := Blk.sto hK294 H34 ne67
                    have hK302 := Blk.sto hK295 H34 ne68
                    have hK303 := Blk.sto hK296 H34 ne69
                    have hK304 := Blk.sto hK297 H34 ne70
                    have hK305 := Blk.sto hK298 H34 ne71
                    have hK306 := H34.blk
                    have hK307 := Blk.sto hK300 H34 ne89.symm
                    have hz34 := H34.size
                    refine ⟨hS43, ?_⟩
                    refine RH.one 7 (by kernel_rfl) ?_
                    refine RO.sto rfl (v := .int .i64 (totG d)) (j := 0) rfl rfl hK307 (Yu.store rfl rfl rfl rfl rfl sz3 hK307 (by simp)) ?_
                    intro w54 H35
                    have hS44 := Kp.sto hS43 H35 (.inr (by omega))
                    have hB54 := Bl.sto hB53 H35 lo_b19
                    have hK308 := Blk.sto hK301 H35 ne84
                    have hK309 := Blk.sto hK302 H35 ne85
                    have hK310 := Blk.sto hK303 H35 ne86
                    have hK311 := Blk.sto hK304 H35 ne87
                    have hK312 := Blk.sto hK305 H35 ne88
                    have hK313 := Blk.sto hK306 H35 ne89
                    have hK314 := H35.blk
                    have hz35 := H35.size
                    refine ⟨hS44, ?_⟩
                    refine RH.done (by kernel_rfl) ?_
                    exact ⟨b16, b19, Sub.cons rfl (Sub.cons rfl (Sub.cons rfl (Sub.cons rfl (Sub.cons rfl (Sub.cons rfl (Sub.cons rfl (Sub.cons rfl (Sub.nil)))))))), hB54, hK308, hK309, hK310, hK311, hK312, hK313, hK314, lo_b16, lo_b19, ne67, ne68, ne69, ne70, ne71, ne84, ne85, ne86, ne87, ne88, ne89, (by omega)⟩
                ·
                  refine RO.newP rfl (cs := #[.int .i64 0]) (T := 3) rfl rfl rfl (Yv.alloc (z := .int .i64 0) rfl zero3) ?_
                  intro b20 w55 N20
                  have ne90 := New.ne N20 hK36
                  have ne91 := New.ne N20 hK37
                  have ne92 := New.ne N20 hK38
                  have ne93 := New.ne N20 hK39
                  have ne94 := New.ne N20 hK40
                  have lo_b20 : w.heap.size ≤ b20 := by have := hB11.size; have := N20.num; omega
                  have hn_b20 := N20.num
                  have hs_b20 := N20.size
                  have hS45 := Kp.step hS1 N20.below
                  have hB55 := Bl.step hB11 N20.below
                  have hK315 := Blk.below hK36 N20.below
                  have hK316 := Blk.below hK37 N20.below
                  have hK317 := Blk.below hK38 N20.below
                  have hK318 := Blk.below hK39 N20.below
                  have hK319 := Blk.below hK40 N20.below
                  refine ⟨hS45, ?_⟩
                  refine RH.two 1 4 (by kernel_rfl) ?_ ?_
                  ·
                    refine RO.fn rfl rfl rfl rfl (Yc.func #[.agg #[.slice p c.length cc]] rfl ok42 (args1 rfl)) (c42 ((hv.mono (kept_from hB0 hB55 (Nat.le_refl _))).wide (Nat.zero_le _) (by omega))) ?_
                    rintro _ w56 ⟨rfl, H36⟩
                    have hS46 := Kp.step hS45 H36
                    have hB56 := Bl.step hB55 H36
                    have hK320 := Blk.below hK315 H36
                    have hK321 := Blk.below hK316 H36
                    have hK322 := Blk.below hK317 H36
                    have hK323 := Blk.below hK318 H36
                    have hK324 := Blk.below hK319 H36
                    have hK325 := Blk.below N20.blk H36
                    have hz36 := H36.size
                    refine ⟨hS46, ?_⟩
                    refine RH.two 3 4 (by kernel_rfl) ?_ ?_
                    ·
                      refine RO.fn rfl rfl rfl rfl (Yc.func #[.agg #[.slice p2 d.length cd]] rfl ok42 (args1 rfl)) (c42 ((hu.mono (kept_from hB0 hB56 (Nat.le_refl _))).wide (Nat.zero_le _) (by omega))) ?_
                      rintro _ w57 ⟨rfl, H37⟩
                      have hS47 := Kp.step hS46 H37
                      have hB57 := Bl.step hB56 H37
                      have hK326 := Blk.below hK320 H37
                      have hK327 := Blk.below hK321 H37
                      have hK328 := Blk.below hK322 H37
                      have hK329 := Blk.below hK323 H37
                      have hK330 := Blk.below hK324 H37
                      have hK331 := Blk.below hK325 H37
                      have hz37 := H37.size
                      refine ⟨hS47, ?_⟩
                      refine RH.one 4 (by kernel_rfl) ?_
                      refine RO.newP rfl (cs := #[.int .i64 0]) (T := 3) rfl rfl rfl (Yv.alloc (z := .int .i64 0) rfl zero3) ?_
                      intro b21 w58 N21
                      have ne95 := New.ne N21 hK326
                      have ne96 := New.ne N21 hK327
                      have ne97 := New.ne N21 hK328
                      have ne98 := New.ne N21 hK329
                      have ne99 := New.ne N21 hK330
                      have ne100 := New.ne N21 hK331
                      have lo_b21 : w.heap.size ≤ b21 := by have := hB57.size; have := N21.num; omega
                      have hn_b21 := N21.num
                      have hs_b21 := N21.size
                      have hS48 := Kp.step hS47 N21.below
                      have hB58 := Bl.step hB57 N21.below
                      have hK332 := Blk.below hK326 N21.below
                      have hK333 := Blk.below hK327 N21.below
                      have hK334 := Blk.below hK328 N21.below
                      have hK335 := Blk.below hK329 N21.below
                      have hK336 := Blk.below hK330 N21.below
                      have hK337 := Blk.below hK331 N21.below
                      refine ⟨hS48, ?_⟩
                      refine RH.one 6 (by kernel_rfl) ?_
                      refine RO.sto rfl (v := .int .i64 (totG c)) (j := 0) rfl rfl N21.blk (Yu.store rfl rfl rfl rfl rfl sz3 N21.blk (by simp)) ?_
                      intro w59 H38
                      have hS49 := Kp.sto hS48 H38 (.inr (by omega))
                      have hB59 := Bl.sto hB58 H38 lo_b21
                      have hK338 := Blk.sto hK332 H38 ne95
                      have hK339 := Blk.sto hK333 H38 ne96
                      have hK340 := Blk.sto hK334 H38 ne97
                      have hK341 := Blk.sto hK335 H38 ne98
                      have hK342 := Blk.sto hK336 H38 ne99
                      have hK343 := Blk.sto hK337 H38 ne100
                      have hK344 := H38.blk
                      have hz38 := H38.size
                      refine ⟨hS49, ?_⟩
                      refine RH.one 7 (by kernel_rfl) ?_
                      refine RO.sto rfl (v := .int .i64 (totG d)) (j := 0) rfl rfl hK343 (Yu.store rfl rfl rfl rfl rfl sz3 hK343 (by simp)) ?_
                      intro w60 H39
                      have hS50 := Kp.sto hS49 H39 (.inr (by omega))
                      have hB60 := Bl.sto hB59 H39 lo_b20
                      have hK345 := Blk.sto hK338 H39 ne90
                      have hK346 := Blk.sto hK339 H39 ne91
                      have hK347 := Blk.sto hK340 H39 ne92
                      have hK348 := Blk.sto hK341 H39 ne93
                      have hK349 := Blk.sto hK342 H39 ne94
                      have hK350 := H39.blk
                      have hK351 := Blk.sto hK344 H39 ne100.symm
                      have hz39 := H39.size
                      refine ⟨hS50, ?_⟩
                      refine RH.done (by kernel_rfl) ?_
                      exact ⟨b21, b20, Sub.cons rfl (Sub.cons rfl (Sub.cons rfl (Sub.cons rfl (Sub.cons rfl (Sub.cons rfl (Sub.cons rfl (Sub.cons rfl (Sub.nil)))))))), hB60, hK345, hK346, hK347, hK348, hK349, hK351, hK350, lo_b21, lo_b20, ne95, ne96, ne97, ne98, ne99, ne90, ne91, ne92, ne93, ne94, ne100.symm, (by omega)⟩
                    ·
                      refine RO.newP rfl (cs := #[.int .i64 0]) (T := 3) rfl rfl rfl (Yv.alloc (z := .int .i64 0) rfl zero3) ?_
                      intro b22 w61 N22
                      have ne101 := New.ne N22 hK320
                      have ne102 := New.ne N22 hK321
                      have ne103 := New.ne N22 hK322
                      have ne104 := New.ne N22 hK323
                      have ne105 := New.ne N22 hK324
                      have ne106 := New.ne N22 hK325
                      have lo_b22 : w.heap.size ≤ b22 := by have := hB56.size; have := N22.num; omega
                      have hn_b22 := N22.num
                      have hs_b22 := N22.size
                      have hS51 := Kp.step hS46 N22.below
                      have hB61 := Bl.step hB56 N22.below
                      have hK352 := Blk.below hK320 N22.below
                      have hK353 := Blk.below hK321 N22.below
                      have hK354 := Blk.below hK322 N22.below
                      have hK355 := Blk.below hK323 N22.below
                      have hK356 := Blk.below hK324 N22.below
                      have hK357 := Blk.below hK325 N22.below
                      refine ⟨hS51, ?_⟩
                      refine RH.one 3 (by kernel_rfl) ?_
                      refine RO.fn rfl rfl rfl rfl (Yc.func #[.agg #[.slice p2 d.length cd]] rfl ok42 (args1 rfl)) (c42 ((hu.mono (kept_from hB0 hB61 (Nat.le_refl _))).wide (Nat.zero_le _) (by omega))) ?_
                      rintro _ w62 ⟨rfl, H40⟩
                      have hS52 := Kp.step hS51 H40
                      have hB62 := Bl.step hB61 H40
                      have hK358 := Blk.below hK352 H40
                      have hK359 := Blk.below hK353 H40
                      have hK360 := Blk.below hK354 H40
                      have hK361 := Blk.below hK355 H40
                      have hK362 := Blk.below hK356 H40
                      have hK363 := Blk.below hK357 H40
                      have hK364 := Blk.below N22.blk H40
                      have hz40 := H40.size
                      refine ⟨hS52, ?_⟩
                      refine RH.one 6 (by kernel_rfl) ?_
                      refine RO.sto rfl (v := .int .i64 (totG c)) (j := 0) rfl rfl hK364 (Yu.store rfl rfl rfl rfl rfl sz3 hK364 (by simp)) ?_
                      intro w63 H41
                      have hS53 := Kp.sto hS52 H41 (.inr (by omega))
                      have hB63 := Bl.sto hB62 H41 lo_b22
                      have hK365 := Blk.sto hK358 H41 ne101
                      have hK366 := Blk.sto hK359 H41 ne102
                      have hK367 := Blk.sto hK360 H41 ne103
                      have hK368 := Blk.sto hK361 H41 ne104
                      have hK369 := Blk.sto hK362 H41 ne105
                      have hK370 := Blk.sto hK363 H41 ne106
                      have hK371 := H41.blk
                      have hz41 := H41.size
                      refine ⟨hS53, ?_⟩
                      refine RH.one 7 (by kernel_rfl) ?_
                      refine RO.sto rfl (v := .int .i64 (totG d)) (j := 0) rfl rfl hK370 (Yu.store rfl rfl rfl rfl rfl sz3 hK370 (by simp)) ?_
                      intro w64 H42
                      have hS54 := Kp.sto hS53 H42 (.inr (by omega))
                      have hB64 := Bl.sto hB63 H42 lo_b20
                      have hK372 := Blk.sto hK365 H42 ne90
                      have hK373 := Blk.sto hK366 H42 ne91
                      have hK374 := Blk.sto hK367 H42 ne92
                      have hK375 := Blk.sto hK368 H42 ne93
                      have hK376 := Blk.sto hK369 H42 ne94
                      have hK377 := H42.blk
                      have hK378 := Blk.sto hK371 H42 ne106.symm
                      have hz42 := H42.size
                      refine ⟨hS54, ?_⟩
                      refine RH.done (by kernel_rfl) ?_
                      exact ⟨b22, b20, Sub.cons rfl (Sub.cons rfl (Sub.cons rfl (Sub.cons rfl (Sub.cons rfl (Sub.cons rfl (Sub.cons rfl (Sub.cons rfl (Sub.nil)))))))), hB64, hK372, hK373, hK374, hK375, hK376, hK378, hK377, lo_b22, lo_b20, ne101, ne102, ne103, ne104, ne105, ne90, ne91, ne92, ne93, ne94, ne106.symm, (by omega)⟩
                  ·
                    refine RO.newP rfl (cs := #[.int .i64 0]) (T := 3) rfl rfl rfl (Yv.alloc (z := .int .i64 0) rfl zero3) ?_
                    intro b23 w65 N23
                    have ne107 := New.ne N23 hK315
                    have ne108 := New.ne N23 hK316
                    have ne109 := New.ne N23 hK317
                    have ne110 := New.ne N23 hK318
                    have ne111 := New.ne N23 hK319
                    have ne112 := New.ne N23 N20.blk
                    have lo_b23 : w.heap.size ≤ b23 := by have := hB55.size; have := N23.num; omega
                    have hn_b23 := N23.num
                    have hs_b23 := N23.size
                    have hS55 := Kp.step hS45 N23.below
                    have hB65 := Bl.step hB55 N23.below
                    have hK379 := Blk.below hK315 N23.below
                    have hK380 := Blk.below hK316 N23.below
                    have hK381 := Blk.below hK317 N23.below
                    have hK382 := Blk.below hK318 N23.below
                    have hK383 := Blk.below hK319 N23.below
                    have hK384 := Blk.below N20.blk N23.below
                    refine ⟨hS55, ?_⟩
                    refine RH.one 1 (by kernel_rfl) ?_
                    refine RO.fn rfl rfl rfl rfl (Yc.func #[.agg #[.slice p c.length cc]] rfl ok42 (args1 rfl)) (c42 ((hv.mono (kept_from hB0 hB65 (Nat.le_refl _))).wide (Nat.zero_le _) (by omega))) ?_
                    rintro _ w66 ⟨rfl, H43⟩
                    have hS56 := Kp.step hS55 H43
                    have hB66 := Bl.step hB65 H43
                    have hK385 := Blk.below hK379 H43
                    have hK386 := Blk.below hK380 H43
                    have hK387 := Blk.below hK381 H43
                    have hK388 := Blk.below hK382 H43
                    have hK389 := Blk.below hK383 H43
                    have hK390 := Blk.below hK384 H43
                    have hK391 := Blk.below N23.blk H43
                    have hz43 := H43.size
                    refine ⟨hS56, ?_⟩
                    refine RH.one 3 (by kernel_rfl) ?_
                    refine RO.fn rfl rfl rfl rfl (Yc.func #[.agg #[.slice p2 d.length cd]] rfl ok42 (args1 rfl)) (c42 ((hu.mono (kept_from hB0 hB66 (Nat.le_refl _))).wide (Nat.zero_le _) (by omega))) ?_
                    rintro _ w67 ⟨rfl, H44⟩
                    have hS57 := Kp.step hS56 H44
                    have hB67 := Bl.step hB66 H44
                    have hK392 := Blk.below hK385 H44
                    have hK393 := Blk.below hK386 H44
                    have hK394 := Blk.below hK387 H44
                    have hK395 := Blk.below hK388 H44
                    have hK396 := Blk.below hK389 H44
                    have hK397 := Blk.below hK390 H44
                    have hK398 := Blk.below hK391 H44
                    have hz44 := H44.size
                    refine ⟨hS57, ?_⟩
                    refine RH.one 6 (by kernel_rfl) ?_
                    refine RO.sto rfl (v := .int .i64 (totG c)) (j := 0) rfl rfl hK398 (Yu.store rfl rfl rfl rfl rfl sz3 hK398 (by simp)) ?_
                    intro w68 H45
                    have hS58 := Kp.sto hS57 H45 (.inr (by omega))
                    have hB68 := Bl.sto hB67 H45 lo_b23
                    have hK399 := Blk.sto hK392 H45 ne107
                    have hK400 := Blk.sto hK393 H45 ne108
                    have hK401 := Blk.sto hK394 H45 ne109
                    have hK402 := Blk.sto hK395 H45 ne110
                    have hK403 := Blk.sto hK396 H45 ne111
                    have hK404 := Blk.sto hK397 H45 ne112
                    have hK405 := H45.blk
                    have hz45 := H45.size
                    refine ⟨hS58, ?_⟩
                    refine RH.one 7 (by kernel_rfl) ?_
                    refine RO.sto rfl (v := .int .i64 (totG d)) (j := 0) rfl rfl hK404 (Yu.store rfl rfl rfl rfl rfl sz3 hK404 (by simp)) ?_
                    intro w69 H46
                    have hS59 := Kp.sto hS58 H46 (.inr (by omega))
                    have hB69 := Bl.sto hB68 H46 lo_b20
                    have hK406 := Blk.sto hK399 H46 ne90
                    have hK407 := Blk.sto hK400 H46 ne91
                    have hK408 := Blk.sto hK401 H46 ne92
                    have hK409 := Blk.sto hK402 H46 ne93
                    have hK410 := Blk.sto hK403 H46 ne94
                    have hK411 := H46.blk
                    have hK412 := Blk.sto hK405 H46 ne112.symm
                    have hz46 := H46.size
                    refine ⟨hS59, ?_⟩
                    refine RH.done (by kernel_rfl) ?_
                    exact ⟨b23, b20, Sub.cons rfl (Sub.cons rfl (Sub.cons rfl (Sub.cons rfl (Sub.cons rfl (Sub.cons rfl (Sub.cons rfl (Sub.cons rfl (Sub.nil)))))))), hB69, hK406, hK407, hK408, hK409, hK410, hK412, hK411, lo_b23, lo_b20, ne107, ne108, ne109, ne110, ne111, ne90, ne91, ne92, ne93, ne94, ne112.symm, (by omega)⟩
              ·
                rintro E1 w70 ⟨nb11_z1, nb12_z2, hsub1, hB70, hK413, hK414, hK415, hK416, hK417, hK418, hK419, lo1, lo2, ne113, ne114, ne115, ne116, ne117, ne118, ne119, ne120, ne121, ne122, ne123, hz47⟩
                change CW _ _ _ _ _ _
                refine CW.weak ?_ hsub1
                refine CW.seq ?_
                refine CW.region ?_
                refine RW.yl rfl rfl rfl (Yl.loadAgg (cs := [.slice p c.length cc]) rfl rfl many24 (Blk.cells hK413)) ?_
                refine RW.fn rfl rfl rfl (Yc.func #[.agg #[.slice p c.length cc]] rfl ok40 (args1 rfl)) (c40 ((hv.mono (kept_from hB0 hB70 (Nat.le_refl _))).wide (Nat.zero_le _) (by omega)) (by omega)) ?_
                rintro _ w71 ⟨rfl, H47⟩
                have hB71 := Bl.step hB70 H47
                have hK420 := Blk.below hK413 H47
                have hK421 := Blk.below hK414 H47
                have hK422 := Blk.below hK415 H47
                have hK423 := Blk.below hK416 H47
                have hK424 := Blk.below hK417 H47
                have hK425 := Blk.below hK418 H47
                have hK426 := Blk.below hK419 H47
                have hz48 := H47.size
                refine RW.newP (cs := #[.int .i64 0]) (T := 3) rfl rfl rfl (Yv.alloc (z := .int .i64 0) rfl zero3) ?_
                intro b24 w72 N24
                have ne124 := New.ne N24 hK420
                have ne125 := New.ne N24 hK421
                have ne126 := New.ne N24 hK422
                have ne127 := New.ne N24 hK423
                have ne128 := New.ne N24 hK424
                have ne129 := New.ne N24 hK425
                have ne130 := New.ne N24 hK426
                have lo_b24 : w.heap.size ≤ b24 := by have := hB71.size; have := N24.num; omega
                have hn_b24 := N24.num
                have hs_b24 := N24.size
                have hB72 := Bl.step hB71 N24.below
                have hK427 := Blk.below hK420 N24.below
                have hK428 := Blk.below hK421 N24.below
                have hK429 := Blk.below hK422 N24.below
                have hK430 := Blk.below hK423 N24.below
                have hK431 := Blk.below hK424 N24.below
                have hK432 := Blk.below hK425 N24.below
                have hK433 := Blk.below hK426 N24.below
                refine RW.sto (v := .int .i64 (((c[0]!).length : Nat) : Int)) (i := 0) rfl rfl N24.blk (Yu.store rfl rfl rfl rfl rfl sz3 N24.blk (by simp)) ?_
                intro w73 H48
                have hB73 := Bl.sto hB72 H48 lo_b24
                have hK434 := Blk.sto hK427 H48 ne124
                have hK435 := Blk.sto hK428 H48 ne125
                have hK436 := Blk.sto hK429 H48 ne126
                have hK437 := Blk.sto hK430 H48 ne127
                have hK438 := Blk.sto hK431 H48 ne128
                have hK439 := Blk.sto hK432 H48 ne129
                have hK440 := Blk.sto hK433 H48 ne130
                have hK441 := H48.blk
                have hz49 := H48.size
                refine RW.nil ?_
                change CW _ _ _ _ _ _
                refine CW.seq ?_
                refine CW.seq ?_
                refine CW.draw 13 rfl (Kp []) (by kernel_rfl) ?_
                intro w74 H49
                have hB74 := Bl.step hB73 H49
                have hK442 := Blk.below hK434 H49
                have hK443 := Blk.below hK435 H49
                have hK444 := Blk.below hK436 H49
                have hK445 := Blk.below hK437 H49
                have hK446 := Blk.below hK438 H49
                have hK447 := Blk.below hK439 H49
                have hK448 := Blk.below hK440 H49
                have hK449 := Blk.below hK441 H49
                have hz50 := H49.size
                have hS60 := Kp.refl [] w74
                refine RH.take 0 rfl (by kernel_rfl) rfl rfl rfl hS60 (fun W38 hW38 => Yl.load rfl rfl one3 (Blk.cell (Kp.blk hW38 hK449 (by simp)) rfl)) ?_
                refine RH.take 1 rfl (by kernel_rfl) rfl rfl rfl hS60 (fun W39 hW39 => Yl.loadAgg (cs := [.slice p2 d.length cd]) rfl rfl many24 (Blk.cells (Kp.blk hW39 hK443 (by simp)))) ?_
                refine RH.take 4 rfl (by kernel_rfl) rfl rfl rfl hS60 (fun W41 hW41 => Yl.load rfl rfl one3 (Blk.cell (Kp.blk hW41 hK444 (by simp)) rfl)) ?_
                refine RH.take 5 rfl (by kernel_rfl) rfl rfl rfl hS60 (fun W43 hW43 => Yl.load rfl rfl one3 (Blk.cell (Kp.blk hW43 hK445 (by simp)) rfl)) ?_
                refine RH.take 6 rfl (by kernel_rfl) rfl rfl rfl hS60 (fun W45 hW45 => Yl.add (m := i) (n := j) rfl rfl rfl (by omega)) ?_
                refine RH.take 7 rfl (by kernel_rfl) rfl rfl rfl hS60 (fun W47 hW47 => Yl.load rfl rfl one3 (Blk.cell (Kp.blk hW47 hK447 (by simp)) rfl)) ?_
                refine RH.take 8 rfl (by kernel_rfl) rfl rfl rfl hS60 (fun W49 hW49 => Yl.mul (m := i + j) (n := totG c) rfl rfl rfl (by omega)) ?_
                refine RH.take 9 rfl (by kernel_rfl) rfl rfl rfl hS60 (fun W51 hW51 => Yl.load rfl rfl one3 (Blk.cell (Kp.blk hW51 hK448 (by simp)) rfl)) ?_
                refine RH.take 10 rfl (by kernel_rfl) rfl rfl rfl hS60 (fun W53 hW53 => Yl.mul (m := (i + j) * (totG c)) (n := totG d) rfl rfl rfl (by omega)) ?_
                refine RH.one 2 (by kernel_rfl) ?_
                refine RO.fn rfl rfl rfl rfl (Yc.func #[.agg #[.slice p2 d.length cd]] rfl ok40 (args1 rfl)) (c40 ((hu.mono (kept_from hB0 hB74 (Nat.le_refl _))).wide (Nat.zero_le _) (by omega)) (by omega)) ?_
                rintro _ w75 ⟨rfl, H50⟩
                have hS61 := Kp.step hS60 H50
                have hB75 := Bl.step hB74 H50
                have hK450 := Blk.below hK442 H50
                have hK451 := Blk.below hK443 H50
                have hK452 := Blk.below hK444 H50
                have hK453 := Blk.below hK445 H50
                have hK454 := Blk.below hK446 H50
                have hK455 := Blk.below hK447 H50
                have hK456 := Blk.below hK448 H50
                have hK457 := Blk.below hK449 H50
                have hz51 := H50.size
                refine ⟨hS61, ?_⟩
                refine RH.take 3 rfl (by kernel_rfl) rfl rfl rfl hS61 (fun W55 hW55 => Yl.addN (a := (c[0]!).length) (b := (d[0]!).length) rfl rfl rfl (by omega)) ?_
                refine RH.one 11 (by kernel_rfl) ?_
                refine RO.fn rfl rfl rfl rfl (Yc.func #[.int .i64 ((((c[0]!).length) + ((d[0]!).length) : Nat) : Int), .int .i64 (((i + j) * (totG c)) * (totG d))] rfl ok41 (args2 rfl rfl)) (c41) ?_
                rintro _ w76 ⟨rfl, H51⟩
                have hS62 := Kp.step hS61 H51
                have hB76 := Bl.step hB75 H51
                have hK458 := Blk.below hK450 H51
                have hK459 := Blk.below hK451 H51
                have hK460 := Blk.below hK452 H51
                have hK461 := Blk.below hK453 H51
                have hK462 := Blk.below hK454 H51
                have hK463 := Blk.below hK455 H51
                have hK464 := Blk.below hK456 H51
                have hK465 := Blk.below hK457 H51
                have hz52 := H51.size
                refine ⟨hS62, ?_⟩
                refine RH.take 12 rfl (by kernel_rfl) rfl rfl rfl hS62 (fun W57 hW57 => Yl.assign rfl rfl) ?_
                refine RH.done (by kernel_rfl) ?_
                change CW _ _ _ _ _ _
                refine CW.seq ?_
                refine CW.region ?_
                refine RW.yl rfl rfl rfl (Yl.move rfl rfl) ?_
                refine RW.yl rfl rfl rfl (Yl.neq rfl rfl rfl) ?_
                refine RW.nil ?_
                change CW _ _ _ _ _ _
                refine CW.cond rfl ?_ ?_
                ·
                  intro hg13
                  have hg14 : decide ((limG ((((c[0]!).length) + ((d[0]!).length) : Nat) : Int) (((i + j) * (totG c)) * (totG d))) = 0) = false := not_t hg13
                  have hq12 := of_decide_eq_false hg14
                  first
                  | (exfalso; omega)
                  | (
                    refine CW.seq ?_
                    refine CW.region ?_
                    refine RW.yl rfl rfl rfl (Yl.build0 rfl rfl built24) ?_
                    refine RW.yl rfl rfl rfl (Yl.move rfl rfl) ?_
                    refine RW.stoAll (cs' := #[.slice none 0 0]) rfl rfl hK462 (Yu.storeAll rfl rfl rfl sz24 hK462 rfl (by simp [Value.oneCell'])) ?_
                    intro w77 H52
                    have hB77 := Bl.sto hB76 H52 lo_b5
                    have hK466 := Blk.sto hK458 H52 ne7
                    have hK467 := Blk.sto hK459 H52 ne8
                    have hK468 := Blk.sto hK460 H52 ne9
                    have hK469 := Blk.sto hK461 H52 ne10
                    have hK470 := H52.blk
                    have hK471 := Blk.sto hK463 H52 ne117.symm
                    have hK472 := Blk.sto hK464 H52 ne122.symm
                    have hK473 := Blk.sto hK465 H52 ne128.symm
                    have hz53 := H52.size
                    refine RW.yl rfl rfl rfl (Yl.assign rfl rfl) ?_
                    refine RW.nil ?_
                    change CW _ _ _ _ _ _
                    refine CW.ret ?_
                    change FinQ _ _ _ _ _ _
                    refine finC1 (.inr rfl) rfl rfl (run_loadVar_many (cs := [.slice none 0 0]) many24 (Blk.cells hK470)) rfl ?_
                    have hcr : visR c d i j = ([], limG ((((c[0]!).length) + ((d[0]!).length) : Nat) : Int) (((i + j) * (totG c)) * (totG d))) := by unfold visR; first | (rw [if_neg (by first | assumption | omega)]; done) | (rw [if_pos (by first | assumption | omega), if_neg (by first | assumption | omega)]; done) | (rw [if_pos (by first | assumption | omega), if_pos (by first | assumption | omega), if_neg (by first | assumption | omega)]; done) | (rw [if_pos (by first | assumption | omega), if_pos (by first | assumption | omega), if_pos (by first | assumption | omega), if_neg (by first | assumption | omega)]; done) | (rw [if_pos (by first | assumption | omega), if_pos (by first | assumption | omega), if_pos (by first | assumption | omega), if_pos (by first | assumption | omega)]; done)
                    exact ⟨_, rfl, _, by rw [hcr], by rw [hcr]; exact Sl.nil _ _ _ _, hB77⟩)
                ·
                  intro hg15
                  have hg16 : decide ((limG ((((c[0]!).length) + ((d[0]!).length) : Nat) : Int) (((i + j) * (totG c)) * (totG d))) = 0) = true := not_f hg15
                  have hq14 := of_decide_eq_true hg16
                  first
                  | (exfalso; omega)
                  | (
                    refine CW.skip ?_
                    change CW _ _ _ _ _ _
                    refine CW.seq ?_
                    refine CW.draw 11 rfl (Kp [b5]) (by kernel_rfl) ?_
                    intro w78 H53
                    have hB78 := Bl.step hB76 H53
                    have hK474 := Blk.below hK458 H53
                    have hK475 := Blk.below hK459 H53
                    have hK476 := Blk.below hK460 H53
                    have hK477 := Blk.below hK461 H53
                    have hK478 := Blk.below hK462 H53
                    have hK479 := Blk.below hK463 H53
                    have hK480 := Blk.below hK464 H53
                    have hK481 := Blk.below hK465 H53
                    have hz54 := H53.size
                    have hS63 := Kp.refl [b5] w78
                    refine RH.take 0 rfl (by kernel_rfl) rfl rfl rfl hS63 (fun W58 hW58 => Yl.fieldAddr rfl rfl Try.underlying24 rfl sz22) ?_
                    refine RH.take 1 rfl (by kernel_rfl) rfl rfl rfl hS63 (fun W59 hW59 => Yl.load rfl rfl one22 (Blk.cell (Kp.blk hW59 hK474 (by simp only [List.mem_cons, List.not_mem_nil, or_false]; omega)) rfl)) ?_
                    refine RH.take 2 rfl (by kernel_rfl) rfl rfl rfl hS63 (fun W60 hW60 => Yl.len rfl rfl Try.underlying22) ?_
                    refine RH.take 3 rfl (by kernel_rfl) rfl rfl rfl hS63 (fun W61 hW61 => Yl.load rfl rfl one3 (Blk.cell (Kp.blk hW61 hK481 (by simp only [List.mem_cons, List.not_mem_nil, or_false]; omega)) rfl)) ?_
                    refine RH.take 4 rfl (by kernel_rfl) rfl rfl rfl hS63 (fun W62 hW62 => Yl.loadAgg (cs := [.slice p2 d.length cd]) rfl rfl many24 (Blk.cells (Kp.blk hW62 hK475 (by simp only [List.mem_cons, List.not_mem_nil, or_false]; omega)))) ?_
                    refine RH.take 7 rfl (by kernel_rfl) rfl rfl rfl hS63 (fun W64 hW64 => Yl.func #[.pointer (some ⟨b24, 0, none⟩), .pointer (some ⟨b1, 0, none⟩), .pointer (some ⟨b3, 0, none⟩), .pointer (some ⟨nb12_z2, 0, none⟩), .pointer (some ⟨b2, 0, none⟩), .pointer (some ⟨b4, 0, none⟩), .pointer (some ⟨nb11_z1, 0, none⟩)] rfl rfl (args7 rfl rfl rfl rfl rfl rfl rfl)) ?_
                    refine RH.one 5 (by kernel_rfl) ?_
                    refine RO.fn rfl rfl rfl rfl (Yc.func #[.agg #[.slice p2 d.length cd]] rfl ok40 (args1 rfl)) (c40 ((hu.mono (kept_from hB0 hB78 (Nat.le_refl _))).wide (Nat.zero_le _) (by omega)) (by omega)) ?_
                    rintro _ w79 ⟨rfl, H54⟩
                    have hS64 := Kp.step hS63 H54
                    have hB79 := Bl.step hB78 H54
                    have hK482 := Blk.below hK474 H54
                    have hK483 := Blk.below hK475 H54
                    have hK484 := Blk.below hK476 H54
                    have hK485 := Blk.below hK477 H54
                    have hK486 := Blk.below hK478 H54
                    have hK487 := Blk.below hK479 H54
                    have hK488 := Blk.below hK480 H54
                    have hK489 := Blk.below hK481 H54
                    have hz55 := H54.size
                    refine ⟨hS64, ?_⟩
                    refine RH.take 6 rfl (by kernel_rfl) rfl rfl rfl hS64 (fun W66 hW66 => Yl.addN (a := (c[0]!).length) (b := (d[0]!).length) rfl rfl rfl (by omega)) ?_
                    refine RH.one 8 (by kernel_rfl) ?_
                    refine RO.fn rfl rfl rfl rfl (Yc.func #[.int .i64 ((c.length : Nat) : Int), .int .i64 ((((c[0]!).length) + ((d[0]!).length) : Nat) : Int), .func (.func 55) #[] #[.pointer (some ⟨b24, 0, none⟩), .pointer (some ⟨b1, 0, none⟩), .pointer (some ⟨b3, 0, none⟩), .pointer (some ⟨nb12_z2, 0, none⟩), .pointer (some ⟨b2, 0, none⟩), .pointer (some ⟨b4, 0, none⟩), .pointer (some ⟨nb11_z1, 0, none⟩)]] rfl ok43 (args3 rfl rfl rfl)) (c43_55 (f := fun x y => if y < (c[0]!).length then (((c[x]!)[y]!) * i) * totG d else (((d[x]!)[y - (c[0]!).length]!) * j) * totG c) (fun hx hy hb => c55 (Blk.below hK489 hb) (Blk.below hK482 hb) ((((hv.mono (kept_from hB0 hB79 (Nat.le_refl _))).wide (Nat.zero_le _) (by omega)).mono (kept_below hb (Nat.le_refl _))).wide (Nat.zero_le _) hb.size) (Blk.below hK484 hb) (Blk.below hK488 hb) (Blk.below hK483 hb) ((((hu.mono (kept_from hB0 hB79 (Nat.le_refl _))).wide (Nat.zero_le _) (by omega)).mono (kept_below hb (Nat.le_refl _))).wide (Nat.zero_le _) hb.size) (Blk.below hK485 hb) (Blk.below hK487 hb) hcc hcd hx (by omega) rfl hy (by omega) (by omega) (by omega) (by omega)) (by omega) (by omega)) ?_
                    rintro _ w80 ⟨s1, rfl, hR1, H55⟩
                    obtain ⟨ps1, cs1, rfl, hl1⟩ := hR1.form
                    have hS65 := Kp.step hS64 H55
                    have hB80 := Bl.step hB79 H55
                    have hK490 := Blk.below hK482 H55
                    have hK491 := Blk.below hK483 H55
                    have hK492 := Blk.below hK484 H55
                    have hK493 := Blk.below hK485 H55
                    have hK494 := Blk.below hK486 H55
                    have hK495 := Blk.below hK487 H55
                    have hK496 := Blk.below hK488 H55
                    have hK497 := Blk.below hK489 H55
                    have hz56 := H55.size
                    refine ⟨hS65, ?_⟩
                    refine RH.one 9 (by kernel_rfl) ?_
                    refine RO.stoAll rfl (cs' := #[.slice ps1 ((tab (c.length) (((c[0]!).length) + ((d[0]!).length)) (fun x y => if y < (c[0]!).length then (((c[x]!)[y]!) * i) * totG d else (((d[x]!)[y - (c[0]!).length]!) * j) * totG c)).length) cs1]) rfl rfl hK494 (Yu.storeAll rfl rfl rfl sz24 hK494 rfl (by simp [Value.oneCell'])) ?_
                    intro w81 H56
                    have hS66 := Kp.sto hS65 H56 (.inl (List.mem_cons_self ..))
                    have hB81 := Bl.sto hB80 H56 lo_b5
                    have hK498 := Blk.sto hK490 H56 ne7
                    have hK499 := Blk.sto hK491 H56 ne8
                    have hK500 := Blk.sto hK492 H56 ne9
                    have hK501 := Blk.sto hK493 H56 ne10
                    have hK502 := H56.blk
                    have hK503 := Blk.sto hK495 H56 ne117.symm
                    have hK504 := Blk.sto hK496 H56 ne122.symm
                    have hK505 := Blk.sto hK497 H56 ne128.symm
                    have hR2 := hR1.mono (kept_sto H56 (by omega) (by omega))
                    have hz57 := H56.size
                    refine ⟨hS66, ?_⟩
                    refine RH.take 10 rfl (by kernel_rfl) rfl rfl rfl hS66 (fun W68 hW68 => Yl.assign rfl rfl) ?_
                    refine RH.done (by kernel_rfl) ?_
                    change CW _ _ _ _ _ _
                    refine CW.ret ?_
                    change FinQ _ _ _ _ _ _
                    refine finC1 (.inr rfl) rfl rfl (run_loadVar_many (cs := [.slice ps1 ((tab (c.length) (((c[0]!).length) + ((d[0]!).length)) (fun x y => if y < (c[0]!).length then (((c[x]!)[y]!) * i) * totG d else (((d[x]!)[y - (c[0]!).length]!) * j) * totG c)).length) cs1]) many24 (Blk.cells hK502)) rfl ?_
                    have hcr : visR c d i j = ((tab (c.length) (((c[0]!).length) + ((d[0]!).length)) (fun x y => if y < (c[0]!).length then (((c[x]!)[y]!) * i) * totG d else (((d[x]!)[y - (c[0]!).length]!) * j) * totG c)), 0) := by unfold visR; first | (rw [if_neg (by first | assumption | omega)]; done) | (rw [if_pos (by first | assumption | omega), if_neg (by first | assumption | omega)]; done) | (rw [if_pos (by first | assumption | omega), if_pos (by first | assumption | omega), if_neg (by first | assumption | omega)]; done) | (rw [if_pos (by first | assumption | omega), if_pos (by first | assumption | omega), if_pos (by first | assumption | omega), if_neg (by first | assumption | omega)]; done) | (rw [if_pos (by first | assumption | omega), if_pos (by first | assumption | omega), if_pos (by first | assumption | omega), if_pos (by first | assumption | omega)]; done)
                    exact ⟨_, rfl, _, by rw [hcr], by rw [hcr]; exact hR2.wide (by omega) (by omega), hB81⟩))))

end Go.Proofs.Ytodeffidnipelaa
