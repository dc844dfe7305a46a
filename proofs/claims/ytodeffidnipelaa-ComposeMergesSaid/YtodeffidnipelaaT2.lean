/- The tests of channels. -/
import Derived.Test.YtodeffidnipelaaSpec
import Derived.Test.YtodeffidnipelaaTab
namespace Go.Proofs.Ytodeffidnipelaa
open Go.RowKit Go.Ev

theorem c57 {w : World} {v : Value} {l : List Int} (hv : RInts 0 w.heap.size w v l) :
    Calls Try.prog 57 #[v] w (Ret fun r w' => r = .int .i64 (sumGo 0 l) ∧ Below w.heap.size w w') := by
  obtain ⟨p, c, rfl, hl⟩ := hv.form
  have hB0 : Below w.heap.size w w := Below.refl _ _
  refine Ev.calls (l := [.slice p l.length c]) Try.func57 rfl rfl rfl ?_
  change CW _ _ _ _ [(0, .slice p l.length c)] _
  refine CW.seq ?_
  refine CW.region ?_
  refine RW.yl rfl rfl rfl (Yl.assign rfl rfl) ?_
  refine RW.nil ?_
  change CW _ _ _ _ _ _
  refine CW.seq ?_
  refine CW.region ?_
  refine RW.yl rfl rfl rfl (Yl.assign rfl rfl) ?_
  refine RW.nil ?_
  change CW _ _ _ _ _ _
  refine CW.seq ?_
  refine CW.seq ?_
  refine CW.region ?_
  refine RW.yl rfl rfl rfl (Yl.move rfl rfl) ?_
  refine RW.yl rfl rfl rfl (Yl.len rfl rfl Try.underlying31) ?_
  refine RW.yl rfl rfl rfl (Yl.move rfl rfl) ?_
  refine RW.nil ?_
  change CW _ _ _ _ _ _
  refine CW.block ?_
  refine CW.loop2 (fun (k : Nat) (s : Int) => [(3, .int .i64 s), (6, .slice p l.length c), (7, .int .i64 ((l.length : Nat) : Int)), (8, .int .i64 ((k : Nat) : Int))]) (fun k s gm W => (gm = l.length - k) ∧ (k ≤ l.length) ∧ (0 ≤ s) ∧ (s ≤ 1048576) ∧ (sumGo 0 l = sumGo s (l.drop k)) ∧ (Below w.heap.size w W) ∧ (w.heap.size ≤ W.heap.size)) 0 0 (l.length - 0) ⟨rfl, (by first | assumption | omega | rfl | exact Eq.trans (by assumption) (sumGo_next _ _ _ (by omega) (by omega) (by omega))), (by first | assumption | omega | rfl | exact Eq.trans (by assumption) (sumGo_next _ _ _ (by omega) (by omega) (by omega))), (by first | assumption | omega | rfl | exact Eq.trans (by assumption) (sumGo_next _ _ _ (by omega) (by omega) (by omega))), (by first | assumption | omega | rfl | exact Eq.trans (by assumption) (sumGo_next _ _ _ (by omega) (by omega) (by omega))), hB0, (by omega)⟩ (Sub.cons rfl (Sub.cons rfl (Sub.cons rfl (Sub.cons rfl (Sub.nil))))) ?_
  intro k s gm1 w1 hinv
  obtain ⟨hm1, hi1, hi2, hi3, hi4, hB1, hz1⟩ := hinv
  change CW _ _ _ _ [(3, .int .i64 s), (6, .slice p l.length c), (7, .int .i64 ((l.length : Nat) : Int)), (8, .int .i64 ((k : Nat) : Int))] _
  refine CW.seq ?_
  refine CW.region ?_
  refine RW.yl rfl rfl rfl (Yl.lss rfl rfl rfl) ?_
  refine RW.nil ?_
  change CW _ _ _ _ _ _
  refine CW.seq ?_
  refine CW.cond rfl ?_ ?_
  ·
    intro hg1
    have hq2 := of_decide_eq_true hg1
    first
    | (exfalso; omega)
    | (
      refine CW.skip ?_
      change CW _ _ _ _ _ _
      refine CW.seq ?_
      refine CW.block ?_
      refine CW.seq ?_
      refine CW.region ?_
      obtain ⟨bx1, ox1, hp1, hl1, hh1, hc1⟩ := (hv.mono (kept_from hB0 hB1 (Nat.le_refl _))).at k (by omega)
      refine RW.yl rfl rfl rfl (Yl.indexAddr1 (k := k) rfl rfl rfl Try.underlying31 sz3 hp1 rfl (by omega)) ?_
      refine RW.yl rfl rfl rfl (Yl.load rfl rfl one3 hc1) ?_
      refine RW.yl rfl rfl rfl (Yl.assign rfl rfl) ?_
      refine RW.nil ?_
      change CW _ _ _ _ _ _
      refine CW.seq ?_
      refine CW.seq ?_
      rcases Bool.eq_false_or_eq_true (decide ((l[k]!) < 0)) with hg2 | hg2
      ·
        have hq3 := of_decide_eq_true hg2
        first
        | (exfalso; omega)
        | (
          refine CW.region ?_
          refine RW.yl rfl rfl rfl (Yl.move rfl rfl) ?_
          refine RW.yl rfl rfl rfl (Yl.eqb (Yl.lss rfl rfl rfl) hg2) ?_
          refine RW.yl rfl rfl rfl (Yl.move rfl rfl) ?_
          refine RW.skip rfl rfl rfl ?_
          refine RW.skip rfl rfl rfl ?_
          refine RW.skip rfl rfl rfl ?_
          refine RW.skip rfl rfl rfl ?_
          refine RW.yl rfl rfl rfl (Yl.pickT rfl rfl rfl) ?_
          refine RW.nil ?_
          change CW _ _ _ _ _ _
          refine CW.condT rfl ?_
          refine CW.seq ?_
          refine CW.region ?_
          refine RW.yl rfl rfl rfl (Yl.assign rfl rfl) ?_
          refine RW.nil ?_
          change CW _ _ _ _ _ _
          refine CW.ret ?_
          change FinQ _ _ _ _ _ _
          refine fin1 (.inr rfl) rfl rfl ?_
          exact ⟨_, rfl, ival (by first | exact (Eq.trans (by assumption) (sumGo_stop _ _ _ (by omega) (by omega))).symm | exact (Eq.trans (by assumption) (sumGo_end _ _ _ (by omega))).symm), hB1⟩)
      ·
        have hq3 := of_decide_eq_false hg2
        first
        | (exfalso; omega)
        | (
          refine CW.region ?_
          refine RW.yl rfl rfl rfl (Yl.move rfl rfl) ?_
          refine RW.yl rfl rfl rfl (Yl.eqb (Yl.lss rfl rfl rfl) hg2) ?_
          refine RW.yl rfl rfl rfl (Yl.move rfl rfl) ?_
          refine RW.yl rfl rfl rfl (Yl.move rfl rfl) ?_
          refine RW.yl rfl rfl rfl (Yl.move rfl rfl) ?_
          refine RW.yl rfl rfl rfl (Yl.sub (m := 1048576) (n := s) rfl rfl rfl (by omega)) ?_
          refine RW.yl rfl rfl rfl (Yl.gtr rfl rfl rfl) ?_
          refine RW.yl rfl rfl rfl (Yl.pickF rfl rfl rfl) ?_
          refine RW.nil ?_
          change CW _ _ _ _ _ _
          refine CW.cond rfl ?_ ?_
          ·
            intro hg3
            have hq5 := of_decide_eq_true hg3
            first
            | (exfalso; omega)
            | (
              refine CW.seq ?_
              refine CW.region ?_
              refine RW.yl rfl rfl rfl (Yl.assign rfl rfl) ?_
              refine RW.nil ?_
              change CW _ _ _ _ _ _
              refine CW.ret ?_
              change FinQ _ _ _ _ _ _
              refine fin1 (.inr rfl) rfl rfl ?_
              exact ⟨_, rfl, ival (by first | exact (Eq.trans (by assumption) (sumGo_stop _ _ _ (by omega) (by omega))).symm | exact (Eq.trans (by assumption) (sumGo_end _ _ _ (by omega))).symm), hB1⟩)
          ·
            intro hg4
            have hq7 := of_decide_eq_false hg4
            first
            | (exfalso; omega)
            | (
              refine CW.skip ?_
              change CW _ _ _ _ _ _
              refine CW.region ?_
              refine RW.yl rfl rfl rfl (Yl.move rfl rfl) ?_
              refine RW.yl rfl rfl rfl (Yl.move rfl rfl) ?_
              refine RW.yl rfl rfl rfl (Yl.add (m := s) (n := (l[k]!)) rfl rfl rfl (by omega)) ?_
              refine RW.yl rfl rfl rfl (Yl.assign rfl rfl) ?_
              refine RW.nil ?_
              change CW _ _ _ _ _ _
              refine CW.region ?_
              refine RW.yl rfl rfl rfl (Yl.addN (a := k) (b := 1) rfl rfl rfl (by omega)) ?_
              refine RW.yl rfl rfl rfl (Yl.move rfl rfl) ?_
              refine RW.nil ?_
              refine ⟨(k + 1, s + (l[k]!)), l.length - (k + 1), by omega, ⟨rfl, (by first | assumption | omega | rfl | exact Eq.trans (by assumption) (sumGo_next _ _ _ (by omega) (by omega) (by omega))), (by first | assumption | omega | rfl | exact Eq.trans (by assumption) (sumGo_next _ _ _ (by omega) (by omega) (by omega))), (by first | assumption | omega | rfl | exact Eq.trans (by assumption) (sumGo_next _ _ _ (by omega) (by omega) (by omega))), (by first | assumption | omega | rfl | exact Eq.trans (by assumption) (sumGo_next _ _ _ (by omega) (by omega) (by omega))), hB1, (by omega)⟩, Sub.cons rfl (Sub.cons rfl (Sub.cons rfl (Sub.cons rfl (Sub.nil))))⟩)))
  ·
    intro hg5
    have hq9 := of_decide_eq_false hg5
    first
    | (exfalso; omega)
    | (
      refine CW.exit ?_
      change CW _ _ _ _ _ _
      refine CW.seq ?_
      refine CW.region ?_
      refine RW.yl rfl rfl rfl (Yl.move rfl rfl) ?_
      refine RW.yl rfl rfl rfl (Yl.assign rfl rfl) ?_
      refine RW.nil ?_
      change CW _ _ _ _ _ _
      refine CW.ret ?_
      change FinQ _ _ _ _ _ _
      refine fin1 (.inr rfl) rfl rfl ?_
      exact ⟨_, rfl, ival (by first | exact (Eq.trans (by assumption) (sumGo_stop _ _ _ (by omega) (by omega))).symm | exact (Eq.trans (by assumption) (sumGo_end _ _ _ (by omega))).symm), hB1⟩)

theorem c58 {w : World} {v : Value} {l : List Int} (hv : RInts 0 w.heap.size w v l) {b1 b2 : Nat} {W T : Int} (h1 : Blk w b1 #[.int .i64 W] 3) (h2 : Blk w b2 #[.int .i64 T] 3) :
    Calls Try.prog 58 #[v, .pointer (some ⟨b1, 0, none⟩), .pointer (some ⟨b2, 0, none⟩)] w (Ret fun r w' => r = .bool (vb1 W T l) ∧ Below w.heap.size w w') := by
  obtain ⟨p, c, rfl, hl⟩ := hv.form
  have hB0 : Below w.heap.size w w := Below.refl _ _
  refine Ev.calls (l := [.slice p l.length c, .pointer (some ⟨b1, 0, none⟩), .pointer (some ⟨b2, 0, none⟩)]) Try.func58 rfl rfl rfl ?_
  change CW _ _ _ _ [(0, .slice p l.length c), (1, .pointer (some ⟨b1, 0, none⟩)), (2, .pointer (some ⟨b2, 0, none⟩))] _
  refine CW.seq ?_
  refine CW.region ?_
  refine RW.yl rfl rfl rfl (Yl.assign rfl rfl) ?_
  refine RW.nil ?_
  change CW _ _ _ _ _ _
  refine CW.seq ?_
  rcases Bool.eq_false_or_eq_true (decide (((l.length : Nat) : Int) = W)) with hg1 | hg1
  ·
    have hq1 := of_decide_eq_true hg1
    first
    | (exfalso; omega)
    | (
      refine CW.draw 11 rfl (Kp []) (by kernel_rfl) ?_
      intro w1 H1
      have hB1 := Bl.step hB0 H1
      have hK1 := Blk.below h1 H1
      have hK2 := Blk.below h2 H1
      have hz1 := H1.size
      have hS1 := Kp.refl [] w1
      refine RH.take 0 rfl (by kernel_rfl) rfl rfl rfl hS1 (fun W1 hW1 => Yl.move rfl rfl) ?_
      refine RH.take 1 rfl (by kernel_rfl) rfl rfl rfl hS1 (fun W2 hW2 => Yl.len rfl rfl Try.underlying31) ?_
      refine RH.take 2 rfl (by kernel_rfl) rfl rfl rfl hS1 (fun W3 hW3 => Yl.load rfl rfl one3 (Blk.cell (Kp.blk hW3 hK1 (by simp)) rfl)) ?_
      refine RH.take 3 rfl (by kernel_rfl) rfl rfl rfl hS1 (fun W4 hW4 => Yl.eqb (Yl.neq rfl rfl rfl) (congrArg (fun b => !b) hg1)) ?_
      refine RH.take 4 rfl (by kernel_rfl) rfl rfl rfl hS1 (fun W5 hW5 => Yl.move rfl rfl) ?_
      refine RH.take 5 rfl (by kernel_rfl) rfl rfl rfl hS1 (fun W6 hW6 => Yl.move rfl rfl) ?_
      refine RH.take 7 rfl (by kernel_rfl) rfl rfl rfl hS1 (fun W8 hW8 => Yl.load rfl rfl one3 (Blk.cell (Kp.blk hW8 hK2 (by simp)) rfl)) ?_
      refine RH.one 6 (by kernel_rfl) ?_
      refine RO.fn rfl rfl rfl rfl (Yc.func #[.slice p l.length c] rfl ok57 (args1 rfl)) (c57 ((hv.mono (kept_from hB0 hB1 (Nat.le_refl _))).wide (Nat.zero_le _) (by omega))) ?_
      rintro _ w2 ⟨rfl, H2⟩
      have hS2 := Kp.step hS1 H2
      have hB2 := Bl.step hB1 H2
      have hK3 := Blk.below hK1 H2
      have hK4 := Blk.below hK2 H2
      have hz2 := H2.size
      refine ⟨hS2, ?_⟩
      refine RH.take 8 rfl (by kernel_rfl) rfl rfl rfl hS2 (fun W10 hW10 => Yl.neq rfl rfl rfl) ?_
      refine RH.take 9 rfl (by kernel_rfl) rfl rfl rfl hS2 (fun W11 hW11 => Yl.pickF rfl rfl rfl) ?_
      refine RH.take 10 rfl (by kernel_rfl) rfl rfl rfl hS2 (fun W12 hW12 => Yl.assign rfl rfl) ?_
      refine RH.done (by kernel_rfl) ?_
      change CW _ _ _ _ _ _
      refine CW.ret ?_
      change FinQ _ _ _ _ _ _
      refine fin1 (.inr rfl) rfl rfl ?_
      exact ⟨_, rfl, bval (by unfold vb1; (try rw [hg1]); rfl), hB2⟩)
  ·
    have hq1 := of_decide_eq_false hg1
    first
    | (exfalso; omega)
    | (
      refine CW.draw 11 rfl (Kp []) (by kernel_rfl) ?_
      intro w3 H3
      have hB3 := Bl.step hB0 H3
      have hK5 := Blk.below h1 H3
      have hK6 := Blk.below h2 H3
      have hz3 := H3.size
      have hS3 := Kp.refl [] w3
      refine RH.take 0 rfl (by kernel_rfl) rfl rfl rfl hS3 (fun W13 hW13 => Yl.move rfl rfl) ?_
      refine RH.take 1 rfl (by kernel_rfl) rfl rfl rfl hS3 (fun W14 hW14 => Yl.len rfl rfl Try.underlying31) ?_
      refine RH.take 2 rfl (by kernel_rfl) rfl rfl rfl hS3 (fun W15 hW15 => Yl.load rfl rfl one3 (Blk.cell (Kp.blk hW15 hK5 (by simp)) rfl)) ?_
      refine RH.take 3 rfl (by kernel_rfl) rfl rfl rfl hS3 (fun W16 hW16 => Yl.eqb (Yl.neq rfl rfl rfl) (congrArg (fun b => !b) hg1)) ?_
      refine RH.take 4 rfl (by kernel_rfl) rfl rfl rfl hS3 (fun W17 hW17 => Yl.move rfl rfl) ?_
      refine RH.pass 5 rfl (by kernel_rfl) rfl rfl rfl hS3 ?_
      refine RH.pass 6 rfl (by kernel_rfl) rfl rfl rfl hS3 ?_
      refine RH.pass 7 rfl (by kernel_rfl) rfl rfl rfl hS3 ?_
      refine RH.pass 8 rfl (by kernel_rfl) rfl rfl rfl hS3 ?_
      refine RH.take 9 rfl (by kernel_rfl) rfl rfl rfl hS3 (fun W18 hW18 => Yl.pickT rfl rfl rfl) ?_
      refine RH.take 10 rfl (by kernel_rfl) rfl rfl rfl hS3 (fun W19 hW19 => Yl.assign rfl rfl) ?_
      refine RH.done (by kernel_rfl) ?_
      change CW _ _ _ _ _ _
      refine CW.ret ?_
      change FinQ _ _ _ _ _ _
      refine fin1 (.inr rfl) rfl rfl ?_
      exact ⟨_, rfl, bval (by unfold vb1; (try rw [hg1]); rfl), hB3⟩)

theorem c56_58 {w : World} {v : Value} {m : List (List Int)} (hv : RRows 0 w.heap.size w v m) {q0 : Value} {q1 : Value} {g : List Int → Bool} (HC : ∀ {W : World} {x : Value} {l : List Int}, Below w.heap.size w W → RInts 0 W.heap.size W x l → Calls Try.prog 58 #[x, q0, q1] W (Ret fun r w' => r = .bool (g l) ∧ Below W.heap.size W w')) :
    Calls Try.prog 56 #[v, .func (.func 58) #[] #[q0, q1]] w (Ret fun r w' => r = .int .i64 (fidx g 0 m) ∧ Below w.heap.size w w') := by
  obtain ⟨p, c, rfl, hl⟩ := hv.form
  have hB0 : Below w.heap.size w w := Below.refl _ _
  refine Ev.calls (l := [.slice p m.length c, .func (.func 58) #[] #[q0, q1]]) Try.func56 rfl rfl rfl ?_
  change CW _ _ _ _ [(0, .slice p m.length c), (1, .func (.func 58) #[] #[q0, q1])] _
  refine CW.seq ?_
  refine CW.region ?_
  refine RW.yl rfl rfl rfl (Yl.assign rfl rfl) ?_
  refine RW.nil ?_
  change CW _ _ _ _ _ _
  refine CW.seq ?_
  refine CW.seq ?_
  refine CW.region ?_
  refine RW.yl rfl rfl rfl (Yl.move rfl rfl) ?_
  refine RW.yl rfl rfl rfl (Yl.len rfl rfl Try.underlying22) ?_
  refine RW.yl rfl rfl rfl (Yl.move rfl rfl) ?_
  refine RW.nil ?_
  change CW _ _ _ _ _ _
  refine CW.block ?_
  refine CW.loop1 (fun (k : Nat) => [(0, .slice p m.length c), (1, .func (.func 58) #[] #[q0, q1]), (7, .int .i64 ((m.length : Nat) : Int)), (8, .int .i64 ((k : Nat) : Int))]) (fun k gm W => (gm = m.length - k) ∧ (k ≤ m.length) ∧ (fidx g 0 m = fidx g k (m.drop k)) ∧ (Below w.heap.size w W) ∧ (w.heap.size ≤ W.heap.size)) 0 (m.length - 0) ⟨rfl, (by first | assumption | omega | rfl | exact Eq.trans (by assumption) (fidx_no _ _ _ (by omega) (by assumption))), (by first | assumption | omega | rfl | exact Eq.trans (by assumption) (fidx_no _ _ _ (by omega) (by assumption))), hB0, (by omega)⟩ (Sub.cons rfl (Sub.cons rfl (Sub.cons rfl (Sub.cons rfl (Sub.nil))))) ?_
  intro k gm1 w1 hinv
  obtain ⟨hm1, hi1, hi2, hB1, hz1⟩ := hinv
  change CW _ _ _ _ [(0, .slice p m.length c), (1, .func (.func 58) #[] #[q0, q1]), (7, .int .i64 ((m.length : Nat) : Int)), (8, .int .i64 ((k : Nat) : Int))] _
  refine CW.seq ?_
  refine CW.region ?_
  refine RW.yl rfl rfl rfl (Yl.lss rfl rfl rfl) ?_
  refine RW.nil ?_
  change CW _ _ _ _ _ _
  refine CW.seq ?_
  refine CW.cond rfl ?_ ?_
  ·
    intro hg1
    have hq2 := of_decide_eq_true hg1
    first
    | (exfalso; omega)
    | (
      refine CW.skip ?_
      change CW _ _ _ _ _ _
      refine CW.seq ?_
      refine CW.block ?_
      refine CW.seq ?_
      refine CW.region ?_
      refine RW.yl rfl rfl rfl (Yl.move rfl rfl) ?_
      refine RW.yl rfl rfl rfl (Yl.assign rfl rfl) ?_
      refine RW.nil ?_
      change CW _ _ _ _ _ _
      refine CW.seq ?_
      refine CW.region ?_
      refine RW.yl rfl rfl rfl (Yl.move rfl rfl) ?_
      refine RW.yl rfl rfl rfl (Yl.move rfl rfl) ?_
      refine RW.yl rfl rfl rfl (Yl.move rfl rfl) ?_
      obtain ⟨bx1, ox1, px1, cx1, hp1, hl1, hh1, hc1, hx1, hn1⟩ := (hv.mono (kept_from hB0 hB1 (Nat.le_refl _))).at k (by omega)
      refine RW.yl rfl rfl rfl (Yl.indexAddr1 (k := k) rfl rfl rfl Try.underlying22 sz31 hp1 rfl (by omega)) ?_
      refine RW.yl rfl rfl rfl (Yl.load rfl rfl one31 hc1) ?_
      refine RW.fn rfl rfl rfl (Yc.closure #[.slice px1 ((m[k]!).length) cx1, q0, q1] rfl rfl ok58 (capt (args1 rfl) rfl)) (HC hB1 (hx1.wide (Nat.zero_le _) (by omega))) ?_
      rintro _ w2 ⟨rfl, H1⟩
      have hB2 := Bl.step hB1 H1
      have hz2 := H1.size
      refine RW.nil ?_
      change CW _ _ _ _ _ _
      refine CW.cond rfl ?_ ?_
      ·
        intro hg2
        first
        | (exfalso; omega)
        | (
          refine CW.seq ?_
          refine CW.region ?_
          refine RW.yl rfl rfl rfl (Yl.move rfl rfl) ?_
          refine RW.yl rfl rfl rfl (Yl.assign rfl rfl) ?_
          refine RW.nil ?_
          change CW _ _ _ _ _ _
          refine CW.ret ?_
          change FinQ _ _ _ _ _ _
          refine fin1 (.inr rfl) rfl rfl ?_
          exact ⟨_, rfl, ival (by first | exact (Eq.trans (by assumption) (fidx_yes _ _ _ (by omega) (by assumption))).symm | exact (Eq.trans (by assumption) (fidx_end _ _ _ (by omega))).symm), hB2⟩)
      ·
        intro hg3
        first
        | (exfalso; omega)
        | (
          refine CW.skip ?_
          change CW _ _ _ _ _ _
          refine CW.region ?_
          refine RW.yl rfl rfl rfl (Yl.addN (a := k) (b := 1) rfl rfl rfl (by omega)) ?_
          refine RW.yl rfl rfl rfl (Yl.move rfl rfl) ?_
          refine RW.nil ?_
          refine ⟨k + 1, m.length - (k + 1), by omega, ⟨rfl, (by first | assumption | omega | rfl | exact Eq.trans (by assumption) (fidx_no _ _ _ (by omega) (by assumption))), (by first | assumption | omega | rfl | exact Eq.trans (by assumption) (fidx_no _ _ _ (by omega) (by assumption))), hB2, (by omega)⟩, Sub.cons rfl (Sub.cons rfl (Sub.cons rfl (Sub.cons rfl (Sub.nil))))⟩))
  ·
    intro hg4
    have hq6 := of_decide_eq_false hg4
    first
    | (exfalso; omega)
    | (
      refine CW.exit ?_
      change CW _ _ _ _ _ _
      refine CW.seq ?_
      refine CW.region ?_
      refine RW.yl rfl rfl rfl (Yl.assign rfl rfl) ?_
      refine RW.nil ?_
      change CW _ _ _ _ _ _
      refine CW.ret ?_
      change FinQ _ _ _ _ _ _
      refine fin1 (.inr rfl) rfl rfl ?_
      exact ⟨_, rfl, ival (by first | exact (Eq.trans (by assumption) (fidx_yes _ _ _ (by omega) (by assumption))).symm | exact (Eq.trans (by assumption) (fidx_end _ _ _ (by omega))).symm), hB1⟩)

theorem c35_58 {w : World} {v : Value} {m : List (List Int)} (hv : RRows 0 w.heap.size w v m) {q0 : Value} {q1 : Value} {g : List Int → Bool} (HC : ∀ {W : World} {x : Value} {l : List Int}, Below w.heap.size w W → RInts 0 W.heap.size W x l → Calls Try.prog 58 #[x, q0, q1] W (Ret fun r w' => r = .bool (g l) ∧ Below W.heap.size W w')) :
    Calls Try.prog 35 #[v, .func (.func 58) #[] #[q0, q1]] w (Ret fun r w' => r = .bool (m.any g) ∧ Below w.heap.size w w') := by
  obtain ⟨p, c, rfl, hl⟩ := hv.form
  have hB0 : Below w.heap.size w w := Below.refl _ _
  refine Ev.calls (l := [.slice p m.length c, .func (.func 58) #[] #[q0, q1]]) Try.func35 rfl rfl rfl ?_
  change CW _ _ _ _ [(0, .slice p m.length c), (1, .func (.func 58) #[] #[q0, q1])] _
  refine CW.seq ?_
  refine CW.region ?_
  refine RW.yl rfl rfl rfl (Yl.assign rfl rfl) ?_
  refine RW.nil ?_
  change CW _ _ _ _ _ _
  refine CW.seq ?_
  refine CW.region ?_
  refine RW.yl rfl rfl rfl (Yl.move rfl rfl) ?_
  refine RW.yl rfl rfl rfl (Yl.move rfl rfl) ?_
  refine RW.fn rfl rfl rfl (Yc.func #[.slice p m.length c, .func (.func 58) #[] #[q0, q1]] rfl ok56 (args2 rfl rfl)) (c56_58 (hv.wide (Nat.zero_le _) (by omega)) HC) ?_
  rintro _ w1 ⟨rfl, H1⟩
  have hB1 := Bl.step hB0 H1
  have hz1 := H1.size
  refine RW.yl rfl rfl rfl (Yl.geq rfl rfl rfl) ?_
  refine RW.yl rfl rfl rfl (Yl.assign rfl rfl) ?_
  refine RW.nil ?_
  change CW _ _ _ _ _ _
  refine CW.ret ?_
  change FinQ _ _ _ _ _ _
  refine fin1 (.inr rfl) rfl rfl ?_
  exact ⟨_, rfl, bval (fidx_any g m 0), hB1⟩

theorem c48 {w : World} {v : Value} {m : List (List Int)} (hv : RRows 0 w.heap.size w v m) :
    Calls Try.prog 48 #[.agg #[v]] w (Ret fun r w' => r = .bool (validB m) ∧ Below w.heap.size w w') := by
  obtain ⟨p, c, rfl, hl⟩ := hv.form
  have hB0 : Below w.heap.size w w := Below.refl _ _
  refine Ev.calls (l := [.agg #[.slice p m.length c]]) Try.func48 rfl rfl rfl ?_
  change CW _ _ _ _ [(0, .agg #[.slice p m.length c])] _
  refine CW.seq ?_
  refine CW.region ?_
  refine RW.newP (cs := #[.slice p m.length c]) (T := 24) rfl rfl rfl (Yv.box (v := .agg #[.slice p m.length c]) rfl rfl) ?_
  intro b1 w1 N1
  have lo_b1 : w.heap.size ≤ b1 := by have := hB0.size; have := N1.num; omega
  have hn_b1 := N1.num
  have hs_b1 := N1.size
  have hB1 := Bl.step hB0 N1.below
  refine RW.yl rfl rfl rfl (Yl.assign rfl rfl) ?_
  refine RW.nil ?_
  change CW _ _ _ _ _ _
  refine CW.seq ?_
  refine CW.seq ?_
  rcases Bool.eq_false_or_eq_true (decide (((m.length : Nat) : Int) < 1)) with hg1 | hg1
  ·
    have hq1 := of_decide_eq_true hg1
    first
    | (exfalso; omega)
    | (
      refine CW.region ?_
      refine RW.yl rfl rfl rfl (Yl.fieldAddr rfl rfl Try.underlying24 rfl sz22) ?_
      refine RW.yl rfl rfl rfl (Yl.load rfl rfl one22 (Blk.cell N1.blk rfl)) ?_
      refine RW.yl rfl rfl rfl (Yl.len rfl rfl Try.underlying22) ?_
      refine RW.yl rfl rfl rfl (Yl.eqb (Yl.lss rfl rfl rfl) hg1) ?_
      refine RW.yl rfl rfl rfl (Yl.move rfl rfl) ?_
      refine RW.skip rfl rfl rfl ?_
      refine RW.skip rfl rfl rfl ?_
      refine RW.skip rfl rfl rfl ?_
      refine RW.skip rfl rfl rfl ?_
      refine RW.yl rfl rfl rfl (Yl.pickT rfl rfl rfl) ?_
      refine RW.nil ?_
      change CW _ _ _ _ _ _
      refine CW.condT rfl ?_
      refine CW.seq ?_
      refine CW.region ?_
      refine RW.yl rfl rfl rfl (Yl.assign rfl rfl) ?_
      refine RW.nil ?_
      change CW _ _ _ _ _ _
      refine CW.ret ?_
      change FinQ _ _ _ _ _ _
      refine fin1 (.inr rfl) rfl rfl ?_
      exact ⟨_, rfl, bval (by unfold validB; first | (rw [if_pos (by omega)]; done) | (rw [if_neg (by omega), if_pos (by omega)]; done) | (rw [if_neg (by omega), if_neg (by omega)]; done)), hB1⟩)
  ·
    have hq1 := of_decide_eq_false hg1
    first
    | (exfalso; omega)
    | (
      refine CW.region ?_
      refine RW.yl rfl rfl rfl (Yl.fieldAddr rfl rfl Try.underlying24 rfl sz22) ?_
      refine RW.yl rfl rfl rfl (Yl.load rfl rfl one22 (Blk.cell N1.blk rfl)) ?_
      refine RW.yl rfl rfl rfl (Yl.len rfl rfl Try.underlying22) ?_
      refine RW.yl rfl rfl rfl (Yl.eqb (Yl.lss rfl rfl rfl) hg1) ?_
      refine RW.yl rfl rfl rfl (Yl.move rfl rfl) ?_
      refine RW.yl rfl rfl rfl (Yl.fieldAddr rfl rfl Try.underlying24 rfl sz22) ?_
      refine RW.yl rfl rfl rfl (Yl.load rfl rfl one22 (Blk.cell N1.blk rfl)) ?_
      refine RW.yl rfl rfl rfl (Yl.len rfl rfl Try.underlying22) ?_
      refine RW.yl rfl rfl rfl (Yl.gtr rfl rfl rfl) ?_
      refine RW.yl rfl rfl rfl (Yl.pickF rfl rfl rfl) ?_
      refine RW.nil ?_
      change CW _ _ _ _ _ _
      refine CW.cond rfl ?_ ?_
      ·
        intro hg2
        have hq3 := of_decide_eq_true hg2
        first
        | (exfalso; omega)
        | (
          refine CW.seq ?_
          refine CW.region ?_
          refine RW.yl rfl rfl rfl (Yl.assign rfl rfl) ?_
          refine RW.nil ?_
          change CW _ _ _ _ _ _
          refine CW.ret ?_
          change FinQ _ _ _ _ _ _
          refine fin1 (.inr rfl) rfl rfl ?_
          exact ⟨_, rfl, bval (by unfold validB; first | (rw [if_pos (by omega)]; done) | (rw [if_neg (by omega), if_pos (by omega)]; done) | (rw [if_neg (by omega), if_neg (by omega)]; done)), hB1⟩)
      ·
        intro hg3
        have hq5 := of_decide_eq_false hg3
        first
        | (exfalso; omega)
        | (
          refine CW.skip ?_
          change CW _ _ _ _ _ _
          refine CW.seq ?_
          refine CW.cut (fun E W => ∃ nb3_z1 : Nat, ∃ nb4_z2 : Nat, (Sub [(1, .pointer (some ⟨b1, 0, none⟩)), (2, .bool false), (3, .pointer (some ⟨nb3_z1, 0, none⟩)), (4, .pointer (some ⟨nb4_z2, 0, none⟩))] E) ∧ (Below w.heap.size w W) ∧ (Blk W b1 #[.slice p m.length c] 24) ∧ (Blk W nb3_z1 #[.int .i64 (((m[0]!).length : Nat) : Int)] 3) ∧ (Blk W nb4_z2 #[.int .i64 (sumGo 0 (m[0]!))] 3) ∧ (w.heap.size ≤ nb3_z1) ∧ (w.heap.size ≤ nb4_z2) ∧ (b1 ≠ nb3_z1) ∧ (b1 ≠ nb4_z2) ∧ (nb3_z1 ≠ nb4_z2) ∧ (w1.heap.size ≤ W.heap.size)) ?_ ?_
          ·
            refine CW.draw 14 rfl (Kp []) (by kernel_rfl) ?_
            intro w2 H1
            have hB2 := Bl.step hB1 H1
            have hK1 := Blk.below N1.blk H1
            have hz1 := H1.size
            have hS1 := Kp.refl [] w2
            refine RH.take 0 rfl (by kernel_rfl) rfl rfl rfl hS1 (fun W1 hW1 => Yl.fieldAddr rfl rfl Try.underlying24 rfl sz22) ?_
            refine RH.take 1 rfl (by kernel_rfl) rfl rfl rfl hS1 (fun W2 hW2 => Yl.load rfl rfl one22 (Blk.cell (Kp.blk hW2 hK1 (by simp)) rfl)) ?_
            obtain ⟨bx1, ox1, px1, cx1, hp1, hl1, hh1, hc1, hx1, hn1⟩ := (hv.mono (kept_from hB0 hB2 (Nat.le_refl _))).at 0 (by omega)
            refine RH.take 2 rfl (by kernel_rfl) rfl rfl rfl hS1 (fun W3 hW3 => Yl.indexAddr1 (k := 0) rfl rfl rfl Try.underlying22 sz31 hp1 rfl (by omega)) ?_
            refine RH.take 3 rfl (by kernel_rfl) rfl rfl rfl hS1 (fun W4 hW4 => Yl.load rfl rfl one31 (Kp.cell hW4 hc1 (by simp))) ?_
            refine RH.take 4 rfl (by kernel_rfl) rfl rfl rfl hS1 (fun W5 hW5 => Yl.len rfl rfl Try.underlying31) ?_
            refine RH.take 5 rfl (by kernel_rfl) rfl rfl rfl hS1 (fun W6 hW6 => Yl.fieldAddr rfl rfl Try.underlying24 rfl sz22) ?_
            refine RH.take 6 rfl (by kernel_rfl) rfl rfl rfl hS1 (fun W7 hW7 => Yl.load rfl rfl one22 (Blk.cell (Kp.blk hW7 hK1 (by simp)) rfl)) ?_
            obtain ⟨bx2, ox2, px2, cx2, hp2, hl2, hh2, hc2, hx2, hn2⟩ := (hv.mono (kept_from hB0 hB2 (Nat.le_refl _))).at 0 (by omega)
            refine RH.take 7 rfl (by kernel_rfl) rfl rfl rfl hS1 (fun W8 hW8 => Yl.indexAddr1 (k := 0) rfl rfl rfl Try.underlying22 sz31 hp2 rfl (by omega)) ?_
            refine RH.take 8 rfl (by kernel_rfl) rfl rfl rfl hS1 (fun W9 hW9 => Yl.load rfl rfl one31 (Kp.cell hW9 hc2 (by simp))) ?_
            refine RH.three 9 10 11 (by kernel_rfl) ?_ ?_ ?_
            ·
              refine RO.fn rfl rfl rfl rfl (Yc.func #[.slice px2 ((m[0]!).length) cx2] rfl ok57 (args1 rfl)) (c57 (hx2.wide (Nat.zero_le _) (by omega))) ?_
              rintro _ w3 ⟨rfl, H2⟩
              have hS2 := Kp.step hS1 H2
              have hB3 := Bl.step hB2 H2
              have hK2 := Blk.below hK1 H2
              have hz2 := H2.size
              refine ⟨hS2, ?_⟩
              refine RH.two 10 11 (by kernel_rfl) ?_ ?_
              ·
                refine RO.newP rfl (cs := #[.int .i64 0]) (T := 3) rfl rfl rfl (Yv.alloc (z := .int .i64 0) rfl zero3) ?_
                intro b2 w4 N2
                have ne1 := New.ne N2 hK2
                have lo_b2 : w.heap.size ≤ b2 := by have := hB3.size; have := N2.num; omega
                have hn_b2 := N2.num
                have hs_b2 := N2.size
                have hS3 := Kp.step hS2 N2.below
                have hB4 := Bl.step hB3 N2.below
                have hK3 := Blk.below hK2 N2.below
                refine ⟨hS3, ?_⟩
                refine RH.one 11 (by kernel_rfl) ?_
                refine RO.newP rfl (cs := #[.int .i64 0]) (T := 3) rfl rfl rfl (Yv.alloc (z := .int .i64 0) rfl zero3) ?_
                intro b3 w5 N3
                have ne2 := New.ne N3 hK3
                have ne3 := New.ne N3 N2.blk
                have lo_b3 : w.heap.size ≤ b3 := by have := hB4.size; have := N3.num; omega
                have hn_b3 := N3.num
                have hs_b3 := N3.size
                have hS4 := Kp.step hS3 N3.below
                have hB5 := Bl.step hB4 N3.below
                have hK4 := Blk.below hK3 N3.below
                have hK5 := Blk.below N2.blk N3.below
                refine ⟨hS4, ?_⟩
                refine RH.one 12 (by kernel_rfl) ?_
                refine RO.sto rfl (v := .int .i64 (((m[0]!).length : Nat) : Int)) (j := 0) rfl rfl hK5 (Yu.store rfl rfl rfl rfl rfl sz3 hK5 (by simp)) ?_
                intro w6 H3
                have hS5 := Kp.sto hS4 H3 (.inr (by omega))
                have hB6 := Bl.sto hB5 H3 lo_b2
                have hK6 := Blk.sto hK4 H3 ne1
                have hK7 := H3.blk
                have hK8 := Blk.sto N3.blk H3 ne3.symm
                have hz3 := H3.size
                refine ⟨hS5, ?_⟩
                refine RH.one 13 (by kernel_rfl) ?_
                refine RO.sto rfl (v := .int .i64 (sumGo 0 (m[0]!))) (j := 0) rfl rfl hK8 (Yu.store rfl rfl rfl rfl rfl sz3 hK8 (by simp)) ?_
                intro w7 H4
                have hS6 := Kp.sto hS5 H4 (.inr (by omega))
                have hB7 := Bl.sto hB6 H4 lo_b3
                have hK9 := Blk.sto hK6 H4 ne2
                have hK10 := Blk.sto hK7 H4 ne3
                have hK11 := H4.blk
                have hz4 := H4.size
                refine ⟨hS6, ?_⟩
                refine RH.done (by kernel_rfl) ?_
                exact ⟨b2, b3, Sub.cons rfl (Sub.cons rfl (Sub.cons rfl (Sub.cons rfl (Sub.nil)))), hB7, hK9, hK10, hK11, lo_b2, lo_b3, ne1, ne2, ne3, (by omega)⟩
              ·
                refine RO.newP rfl (cs := #[.int .i64 0]) (T := 3) rfl rfl rfl (Yv.alloc (z := .int .i64 0) rfl zero3) ?_
                intro b4 w8 N4
                have ne4 := New.ne N4 hK2
                have lo_b4 : w.heap.size ≤ b4 := by have := hB3.size; have := N4.num; omega
                have hn_b4 := N4.num
                have hs_b4 := N4.size
                have hS7 := Kp.step hS2 N4.below
                have hB8 := Bl.step hB3 N4.below
                have hK12 := Blk.below hK2 N4.below
                refine ⟨hS7, ?_⟩
                refine RH.one 10 (by kernel_rfl) ?_
                refine RO.newP rfl (cs := #[.int .i64 0]) (T := 3) rfl rfl rfl (Yv.alloc (z := .int .i64 0) rfl zero3) ?_
                intro b5 w9 N5
                have ne5 := New.ne N5 hK12
                have ne6 := New.ne N5 N4.blk
                have lo_b5 : w.heap.size ≤ b5 := by have := hB8.size; have := N5.num; omega
                have hn_b5 := N5.num
                have hs_b5 := N5.size
                have hS8 := Kp.step hS7 N5.below
                have hB9 := Bl.step hB8 N5.below
                have hK13 := Blk.below hK12 N5.below
                have hK14 := Blk.below N4.blk N5.below
                refine ⟨hS8, ?_⟩
                refine RH.one 12 (by kernel_rfl) ?_
                refine RO.sto rfl (v := .int .i64 (((m[0]!).length : Nat) : Int)) (j := 0) rfl rfl N5.blk (Yu.store rfl rfl rfl rfl rfl sz3 N5.blk (by simp)) ?_
                intro w10 H5
                have hS9 := Kp.sto hS8 H5 (.inr (by omega))
                have hB10 := Bl.sto hB9 H5 lo_b5
                have hK15 := Blk.sto hK13 H5 ne5
                have hK16 := Blk.sto hK14 H5 ne6
                have hK17 := H5.blk
                have hz5 := H5.size
                refine ⟨hS9, ?_⟩
                refine RH.one 13 (by kernel_rfl) ?_
                refine RO.sto rfl (v := .int .i64 (sumGo 0 (m[0]!))) (j := 0) rfl rfl hK16 (Yu.store rfl rfl rfl rfl rfl sz3 hK16 (by simp)) ?_
                intro w11 H6
                have hS10 := Kp.sto hS9 H6 (.inr (by omega))
                have hB11 := Bl.sto hB10 H6 lo_b4
                have hK18 := Blk.sto hK15 H6 ne4
                have hK19 := H6.blk
                have hK20 := Blk.sto hK17 H6 ne6.symm
                have hz6 := H6.size
                refine ⟨hS10, ?_⟩
                refine RH.done (by kernel_rfl) ?_
                exact ⟨b5, b4, Sub.cons rfl (Sub.cons rfl (Sub.cons rfl (Sub.cons rfl (Sub.nil)))), hB11, hK18, hK20, hK19, lo_b5, lo_b4, ne5, ne4, ne6.symm, (by omega)⟩
            ·
              refine RO.newP rfl (cs := #[.int .i64 0]) (T := 3) rfl rfl rfl (Yv.alloc (z := .int .i64 0) rfl zero3) ?_
              intro b6 w12 N6
              have ne7 := New.ne N6 hK1
              have lo_b6 : w.heap.size ≤ b6 := by have := hB2.size; have := N6.num; omega
              have hn_b6 := N6.num
              have hs_b6 := N6.size
              have hS11 := Kp.step hS1 N6.below
              have hB12 := Bl.step hB2 N6.below
              have hK21 := Blk.below hK1 N6.below
              refine ⟨hS11, ?_⟩
              refine RH.two 9 11 (by kernel_rfl) ?_ ?_
              ·
                refine RO.fn rfl rfl rfl rfl (Yc.func #[.slice px2 ((m[0]!).length) cx2] rfl ok57 (args1 rfl)) (c57 ((hx2.mono (kept_from hB2 hB12 (Nat.le_refl _))).wide (Nat.zero_le _) (by omega))) ?_
                rintro _ w13 ⟨rfl, H7⟩
                have hS12 := Kp.step hS11 H7
                have hB13 := Bl.step hB12 H7
                have hK22 := Blk.below hK21 H7
                have hK23 := Blk.below N6.blk H7
                have hz7 := H7.size
                refine ⟨hS12, ?_⟩
                refine RH.one 11 (by kernel_rfl) ?_
                refine RO.newP rfl (cs := #[.int .i64 0]) (T := 3) rfl rfl rfl (Yv.alloc (z := .int .i64 0) rfl zero3) ?_
                intro b7 w14 N7
                have ne8 := New.ne N7 hK22
                have ne9 := New.ne N7 hK23
                have lo_b7 : w.heap.size ≤ b7 := by have := hB13.size; have := N7.num; omega
                have hn_b7 := N7.num
                have hs_b7 := N7.size
                have hS13 := Kp.step hS12 N7.below
                have hB14 := Bl.step hB13 N7.below
                have hK24 := Blk.below hK22 N7.below
                have hK25 := Blk.below hK23 N7.below
                refine ⟨hS13, ?_⟩
                refine RH.one 12 (by kernel_rfl) ?_
                refine RO.sto rfl (v := .int .i64 (((m[0]!).length : Nat) : Int)) (j := 0) rfl rfl hK25 (Yu.store rfl rfl rfl rfl rfl sz3 hK25 (by simp)) ?_
                intro w15 H8
                have hS14 := Kp.sto hS13 H8 (.inr (by omega))
                have hB15 := Bl.sto hB14 H8 lo_b6
                have hK26 := Blk.sto hK24 H8 ne7
                have hK27 := H8.blk
                have hK28 := Blk.sto N7.blk H8 ne9.symm
                have hz8 := H8.size
                refine ⟨hS14, ?_⟩
                refine RH.one 13 (by kernel_rfl) ?_
                refine RO.sto rfl (v := .int .i64 (sumGo 0 (m[0]!))) (j := 0) rfl rfl hK28 (Yu.store rfl rfl rfl rfl rfl sz3 hK28 (by simp)) ?_
                intro w16 H9
                have hS15 := Kp.sto hS14 H9 (.inr (by omega))
                have hB16 := Bl.sto hB15 H9 lo_b7
                have hK29 := Blk.sto hK26 H9 ne8
                have hK30 := Blk.sto hK27 H9 ne9
                have hK31 := H9.blk
                have hz9 := H9.size
                refine ⟨hS15, ?_⟩
                refine RH.done (by kernel_rfl) ?_
                exact ⟨b6, b7, Sub.cons rfl (Sub.cons rfl (Sub.cons rfl (Sub.cons rfl (Sub.nil)))), hB16, hK29, hK30, hK31, lo_b6, lo_b7, ne7, ne8, ne9, (by omega)⟩
              ·
                refine RO.newP rfl (cs := #[.int .i64 0]) (T := 3) rfl rfl rfl (Yv.alloc (z := .int .i64 0) rfl zero3) ?_
                intro b8 w17 N8
                have ne10 := New.ne N8 hK21
                have ne11 := New.ne N8 N6.blk
                have lo_b8 : w.heap.size ≤ b8 := by have := hB12.size; have := N8.num; omega
                have hn_b8 := N8.num
                have hs_b8 := N8.size
                have hS16 := Kp.step hS11 N8.below
                have hB17 := Bl.step hB12 N8.below
                have hK32 := Blk.below hK21 N8.below
                have hK33 := Blk.below N6.blk N8.below
                refine ⟨hS16, ?_⟩
                refine RH.one 9 (by kernel_rfl) ?_
                refine RO.fn rfl rfl rfl rfl (Yc.func #[.slice px2 ((m[0]!).length) cx2] rfl ok57 (args1 rfl)) (c57 ((hx2.mono (kept_from hB2 hB17 (Nat.le_refl _))).wide (Nat.zero_le _) (by omega))) ?_
                rintro _ w18 ⟨rfl, H10⟩
                have hS17 := Kp.step hS16 H10
                have hB18 := Bl.step hB17 H10
                have hK34 := Blk.below hK32 H10
                have hK35 := Blk.below hK33 H10
                have hK36 := Blk.below N8.blk H10
                have hz10 := H10.size
                refine ⟨hS17, ?_⟩
                refine RH.one 12 (by kernel_rfl) ?_
                refine RO.sto rfl (v := .int .i64 (((m[0]!).length : Nat) : Int)) (j := 0) rfl rfl hK35 (Yu.store rfl rfl rfl rfl rfl sz3 hK35 (by simp)) ?_
                intro w19 H11
                have hS18 := Kp.sto hS17 H11 (.inr (by omega))
                have hB19 := Bl.sto hB18 H11 lo_b6
                have hK37 := Blk.sto hK34 H11 ne7
                have hK38 := H11.blk
                have hK39 := Blk.sto hK36 H11 ne11.symm
                have hz11 := H11.size
                refine ⟨hS18, ?_⟩
                refine RH.one 13 (by kernel_rfl) ?_
                refine RO.sto rfl (v := .int .i64 (sumGo 0 (m[0]!))) (j := 0) rfl rfl hK39 (Yu.store rfl rfl rfl rfl rfl sz3 hK39 (by simp)) ?_
                intro w20 H12
                have hS19 := Kp.sto hS18 H12 (.inr (by omega))
                have hB20 := Bl.sto hB19 H12 lo_b8
                have hK40 := Blk.sto hK37 H12 ne10
                have hK41 := Blk.sto hK38 H12 ne11
                have hK42 := H12.blk
                have hz12 := H12.size
                refine ⟨hS19, ?_⟩
                refine RH.done (by kernel_rfl) ?_
                exact ⟨b6, b8, Sub.cons rfl (Sub.cons rfl (Sub.cons rfl (Sub.cons rfl (Sub.nil)))), hB20, hK40, hK41, hK42, lo_b6, lo_b8, ne7, ne10, ne11, (by omega)⟩
            ·
              refine RO.newP rfl (cs := #[.int .i64 0]) (T := 3) rfl rfl rfl (Yv.alloc (z := .int .i64 0) rfl zero3) ?_
              intro b9 w21 N9
              have ne12 := New.ne N9 hK1
              have lo_b9 : w.heap.size ≤ b9 := by have := hB2.size; have := N9.num; omega
              have hn_b9 := N9.num
              have hs_b9 := N9.size
              have hS20 := Kp.step hS1 N9.below
              have hB21 := Bl.step hB2 N9.below
              have hK43 := Blk.below hK1 N9.below
              refine ⟨hS20, ?_⟩
              refine RH.two 9 10 (by kernel_rfl) ?_ ?_
              ·
                refine RO.fn rfl rfl rfl rfl (Yc.func #[.slice px2 ((m[0]!).length) cx2] rfl ok57 (args1 rfl)) (c57 ((hx2.mono (kept_from hB2 hB21 (Nat.le_refl _))).wide (Nat.zero_le _) (by omega))) ?_
                rintro _ w22 ⟨rfl, H13⟩
                have hS21 := Kp.step hS20 H13
                have hB22 := Bl.step hB21 H13
                have hK44 := Blk.below hK43 H13
                have hK45 := Blk.below N9.blk H13
                have hz13 := H13.size
                refine ⟨hS21, ?_⟩
                refine RH.one 10 (by kernel_rfl) ?_
                refine RO.newP rfl (cs := #[.int .i64 0]) (T := 3) rfl rfl rfl (Yv.alloc (z := .int .i64 0) rfl zero3) ?_
                intro b10 w23 N10
                have ne13 := New.ne N10 hK44
                have ne14 := New.ne N10 hK45
                have lo_b10 : w.heap.size ≤ b10 := by have := hB22.size; have := N10.num; omega
                have hn_b10 := N10.num
                have hs_b10 := N10.size
                have hS22 := Kp.step hS21 N10.below
                have hB23 := Bl.step hB22 N10.below
                have hK46 := Blk.below hK44 N10.below
                have hK47 := Blk.below hK45 N10.below
                refine ⟨hS22, ?_⟩
                refine RH.one 12 (by kernel_rfl) ?_
                refine RO.sto rfl (v := .int .i64 (((m[0]!).length : Nat) : Int)) (j := 0) rfl rfl N10.blk (Yu.store rfl rfl rfl rfl rfl sz3 N10.blk (by simp)) ?_
                intro w24 H14
                have hS23 := Kp.sto hS22 H14 (.inr (by omega))
                have hB24 := Bl.sto hB23 H14 lo_b10
                have hK48 := Blk.sto hK46 H14 ne13
                have hK49 := Blk.sto hK47 H14 ne14
                have hK50 := H14.blk
                have hz14 := H14.size
                refine ⟨hS23, ?_⟩
                refine RH.one 13 (by kernel_rfl) ?_
                refine RO.sto rfl (v := .int .i64 (sumGo 0 (m[0]!))) (j := 0) rfl rfl hK49 (Yu.store rfl rfl rfl rfl rfl sz3 hK49 (by simp)) ?_
                intro w25 H15
                have hS24 := Kp.sto hS23 H15 (.inr (by omega))
                have hB25 := Bl.sto hB24 H15 lo_b9
                have hK51 := Blk.sto hK48 H15 ne12
                have hK52 := H15.blk
                have hK53 := Blk.sto hK50 H15 ne14.symm
                have hz15 := H15.size
                refine ⟨hS24, ?_⟩
                refine RH.done (by kernel_rfl) ?_
                exact ⟨b10, b9, Sub.cons rfl (Sub.cons rfl (Sub.cons rfl (Sub.cons rfl (Sub.nil)))), hB25, hK51, hK53, hK52, lo_b10, lo_b9, ne13, ne12, ne14.symm, (by omega)⟩
              ·
                refine RO.newP rfl (cs := #[.int .i64 0]) (T := 3) rfl rfl rfl (Yv.alloc (z := .int .i64 0) rfl zero3) ?_
                intro b11 w26 N11
                have ne15 := New.ne N11 hK43
                have ne16 := New.ne N11 N9.blk
                have lo_b11 : w.heap.size ≤ b11 := by have := hB21.size; have := N11.num; omega
                have hn_b11 := N11.num
                have hs_b11 := N11.size
                have hS25 := Kp.step hS20 N11.below
                have hB26 := Bl.step hB21 N11.below
                have hK54 := Blk.below hK43 N11.below
                have hK55 := Blk.below N9.blk N11.below
                refine ⟨hS25, ?_⟩
                refine RH.one 9 (by kernel_rfl) ?_
                refine RO.fn rfl rfl rfl rfl (Yc.func #[.slice px2 ((m[0]!).length) cx2] rfl ok57 (args1 rfl)) (c57 ((hx2.mono (kept_from hB2 hB26 (Nat.le_refl _))).wide (Nat.zero_le _) (by omega))) ?_
                rintro _ w27 ⟨rfl, H16⟩
                have hS26 := Kp.step hS25 H16
                have hB27 := Bl.step hB26 H16
                have hK56 := Blk.below hK54 H16
                have hK57 := Blk.below hK55 H16
                have hK58 := Blk.below N11.blk H16
                have hz16 := H16.size
                refine ⟨hS26, ?_⟩
                refine RH.one 12 (by kernel_rfl) ?_
                refine RO.sto rfl (v := .int .i64 (((m[0]!).length : Nat) : Int)) (j := 0) rfl rfl hK58 (Yu.store rfl rfl rfl rfl rfl sz3 hK58 (by simp)) ?_
                intro w28 H17
                have hS27 := Kp.sto hS26 H17 (.inr (by omega))
                have hB28 := Bl.sto hB27 H17 lo_b11
                have hK59 := Blk.sto hK56 H17 ne15
                have hK60 := Blk.sto hK57 H17 ne16
                have hK61 := H17.blk
                have hz17 := H17.size
                refine ⟨hS27, ?_⟩
                refine RH.one 13 (by kernel_rfl) ?_
                refine RO.sto rfl (v := .int .i64 (sumGo 0 (m[0]!))) (j := 0) rfl rfl hK60 (Yu.store rfl rfl rfl rfl rfl sz3 hK60 (by simp)) ?_
                intro w29 H18
                have hS28 := Kp.sto hS27 H18 (.inr (by omega))
                have hB29 := Bl.sto hB28 H18 lo_b9
                have hK62 := Blk.sto hK59 H18 ne12
                have hK63 := H18.blk
                have hK64 := Blk.sto hK61 H18 ne16.symm
                have hz18 := H18.size
                refine ⟨hS28, ?_⟩
                refine RH.done (by kernel_rfl) ?_
                exact ⟨b11, b9, Sub.cons rfl (Sub.cons rfl (Sub.cons rfl (Sub.cons rfl (Sub.nil)))), hB29, hK62, hK64, hK63, lo_b11, lo_b9, ne15, ne12, ne16.symm, (by omega)⟩
          ·
            rintro E1 w30 ⟨nb3_z1, nb4_z2, hsub1, hB30, hK65, hK66, hK67, lo1, lo2, ne17, ne18, ne19, hz19⟩
            change CW _ _ _ _ _ _
            refine CW.weak ?_ hsub1
            refine CW.seq ?_
            refine CW.seq ?_
            rcases Bool.eq_false_or_eq_true (decide ((((m[0]!).length : Nat) : Int) < 1)) with hg4 | hg4
            ·
              have hq6 := of_decide_eq_true hg4
              first
              | (exfalso; omega)
              | (
                refine CW.region ?_
                refine RW.yl rfl rfl rfl (Yl.load rfl rfl one3 (Blk.cell hK66 rfl)) ?_
                refine RW.yl rfl rfl rfl (Yl.eqb (Yl.lss rfl rfl rfl) hg4) ?_
                refine RW.yl rfl rfl rfl (Yl.move rfl rfl) ?_
                refine RW.skip rfl rfl rfl ?_
                refine RW.skip rfl rfl rfl ?_
                refine RW.yl rfl rfl rfl (Yl.pickT rfl rfl rfl) ?_
                refine RW.yl rfl rfl rfl (Yl.move rfl rfl) ?_
                refine RW.skip rfl rfl rfl ?_
                refine RW.skip rfl rfl rfl ?_
                refine RW.yl rfl rfl rfl (Yl.pickT rfl rfl rfl) ?_
                refine RW.nil ?_
                change CW _ _ _ _ _ _
                refine CW.condT rfl ?_
                refine CW.seq ?_
                refine CW.region ?_
                refine RW.yl rfl rfl rfl (Yl.assign rfl rfl) ?_
                refine RW.nil ?_
                change CW _ _ _ _ _ _
                refine CW.ret ?_
                change FinQ _ _ _ _ _ _
                refine fin1 (.inr rfl) rfl rfl ?_
                exact ⟨_, rfl, bval (by unfold validB; first | (rw [if_pos (by omega)]; done) | (rw [if_neg (by omega), if_pos (by omega)]; done) | (rw [if_neg (by omega), if_neg (by omega)]; done)), hB30⟩)
            ·
              have hq6 := of_decide_eq_false hg4
              first
              | (exfalso; omega)
              | (
                rcases Bool.eq_false_or_eq_true (decide (256 < (((m[0]!).length : Nat) : Int))) with hg5 | hg5
                ·
                  have hq7 := of_decide_eq_true hg5
                  first
                  | (exfalso; omega)
                  | (
                    refine CW.region ?_
                    refine RW.yl rfl rfl rfl (Yl.load rfl rfl one3 (Blk.cell hK66 rfl)) ?_
                    refine RW.yl rfl rfl rfl (Yl.eqb (Yl.lss rfl rfl rfl) hg4) ?_
                    refine RW.yl rfl rfl rfl (Yl.move rfl rfl) ?_
                    refine RW.yl rfl rfl rfl (Yl.load rfl rfl one3 (Blk.cell hK66 rfl)) ?_
                    refine RW.yl rfl rfl rfl (Yl.eqb (Yl.gtr rfl rfl rfl) hg5) ?_
                    refine RW.yl rfl rfl rfl (Yl.pickF rfl rfl rfl) ?_
                    refine RW.yl rfl rfl rfl (Yl.move rfl rfl) ?_
                    refine RW.skip rfl rfl rfl ?_
                    refine RW.skip rfl rfl rfl ?_
                    refine RW.yl rfl rfl rfl (Yl.pickT rfl rfl rfl) ?_
                    refine RW.nil ?_
                    change CW _ _ _ _ _ _
                    refine CW.condT rfl ?_
                    refine CW.seq ?_
                    refine CW.region ?_
                    refine RW.yl rfl rfl rfl (Yl.assign rfl rfl) ?_
                    refine RW.nil ?_
                    change CW _ _ _ _ _ _
                    refine CW.ret ?_
                    change FinQ _ _ _ _ _ _
                    refine fin1 (.inr rfl) rfl rfl ?_
                    exact ⟨_, rfl, bval (by unfold validB; first | (rw [if_pos (by omega)]; done) | (rw [if_neg (by omega), if_pos (by omega)]; done) | (rw [if_neg (by omega), if_neg (by omega)]; done)), hB30⟩)
                ·
                  have hq7 := of_decide_eq_false hg5
                  first
                  | (exfalso; omega)
                  | (
                    refine CW.region ?_
                    refine RW.yl rfl rfl rfl (Yl.load rfl rfl one3 (Blk.cell hK66 rfl)) ?_
                    refine RW.yl rfl rfl rfl (Yl.eqb (Yl.lss rfl rfl rfl) hg4) ?_
                    refine RW.yl rfl rfl rfl (Yl.move rfl rfl) ?_
                    refine RW.yl rfl rfl rfl (Yl.load rfl rfl one3 (Blk.cell hK66 rfl)) ?_
                    refine RW.yl rfl rfl rfl (Yl.eqb (Yl.gtr rfl rfl rfl) hg5) ?_
                    refine RW.yl rfl rfl rfl (Yl.pickF rfl rfl rfl) ?_
                    refine RW.yl rfl rfl rfl (Yl.move rfl rfl) ?_
                    refine RW.yl rfl rfl rfl (Yl.load rfl rfl one3 (Blk.cell hK67 rfl)) ?_
                    refine RW.yl rfl rfl rfl (Yl.lss rfl rfl rfl) ?_
                    refine RW.yl rfl rfl rfl (Yl.pickF rfl rfl rfl) ?_
                    refine RW.nil ?_
                    change CW _ _ _ _ _ _
                    refine CW.cond rfl ?_ ?_
                    ·
                      intro hg6
                      have hq9 := of_decide_eq_true hg6
                      first
                      | (exfalso; omega)
                      | (
                        refine CW.seq ?_
                        refine CW.region ?_
                        refine RW.yl rfl rfl rfl (Yl.assign rfl rfl) ?_
                        refine RW.nil ?_
                        change CW _ _ _ _ _ _
                        refine CW.ret ?_
                        change FinQ _ _ _ _ _ _
                        refine fin1 (.inr rfl) rfl rfl ?_
                        exact ⟨_, rfl, bval (by unfold validB; first | (rw [if_pos (by omega)]; done) | (rw [if_neg (by omega), if_pos (by omega)]; done) | (rw [if_neg (by omega), if_neg (by omega)]; done)), hB30⟩)
                    ·
                      intro hg7
                      have hq11 := of_decide_eq_false hg7
                      first
                      | (exfalso; omega)
                      | (
                        refine CW.skip ?_
                        change CW _ _ _ _ _ _
                        refine CW.seq ?_
                        refine CW.region ?_
                        refine RW.yl rfl rfl rfl (Yl.fieldAddr rfl rfl Try.underlying24 rfl sz22) ?_
                        refine RW.yl rfl rfl rfl (Yl.load rfl rfl one22 (Blk.cell hK65 rfl)) ?_
                        refine RW.yl rfl rfl rfl (Yl.func #[.pointer (some ⟨nb3_z1, 0, none⟩), .pointer (some ⟨nb4_z2, 0, none⟩)] rfl rfl (args2 rfl rfl)) ?_
                        refine RW.fn rfl rfl rfl (Yc.func #[.slice p m.length c, .func (.func 58) #[] #[.pointer (some ⟨nb3_z1, 0, none⟩), .pointer (some ⟨nb4_z2, 0, none⟩)]] rfl ok35 (args2 rfl rfl)) (c35_58 ((hv.mono (kept_from hB0 hB30 (Nat.le_refl _))).wide (Nat.zero_le _) (by omega)) (g := vb1 (((m[0]!).length : Nat) : Int) (sumGo 0 (m[0]!))) (fun hb hx => c58 hx (Blk.below hK66 hb) (Blk.below hK67 hb))) ?_
                        rintro _ w31 ⟨rfl, H19⟩
                        have hB31 := Bl.step hB30 H19
                        have hK68 := Blk.below hK65 H19
                        have hK69 := Blk.below hK66 H19
                        have hK70 := Blk.below hK67 H19
                        have hz20 := H19.size
                        refine RW.yl rfl rfl rfl (Yl.not rfl rfl) ?_
                        refine RW.yl rfl rfl rfl (Yl.assign rfl rfl) ?_
                        refine RW.nil ?_
                        change CW _ _ _ _ _ _
                        refine CW.ret ?_
                        change FinQ _ _ _ _ _ _
                        refine fin1 (.inr rfl) rfl rfl ?_
                        exact ⟨_, rfl, bval (by unfold validB; first | (rw [if_pos (by omega)]; done) | (rw [if_neg (by omega), if_pos (by omega)]; done) | (rw [if_neg (by omega), if_neg (by omega)]; done)), hB31⟩)))))

end Go.Proofs.Ytodeffidnipelaa
