/- The function literals. -/
import Derived.Test.YtodeffidnipelaaT4
namespace Go.Proofs.Ytodeffidnipelaa
open Go.RowKit Go.Ev

/-- The sizes of a product. -/
theorem mul_bound {a b A B : Int} (ha : 0 ≤ a ∧ a ≤ A) (hb : 0 ≤ b ∧ b ≤ B) : 0 ≤ a * b ∧ a * b ≤ A * B :=
  ⟨Int.mul_nonneg ha.1 hb.1, Int.le_trans (Int.mul_le_mul_of_nonneg_right ha.2 hb.1) (Int.mul_le_mul_of_nonneg_left hb.2 (Int.le_trans ha.1 ha.2))⟩
theorem mul_small {a b : Int} (ha : 0 ≤ a ∧ a ≤ 1048576) (hb : 0 ≤ b ∧ b ≤ 1048576) : 0 ≤ a * b ∧ a * b ≤ 1099511627776 := mul_bound ha hb

theorem c49 {w : World} {x y : Nat} {b_c c_c : Nat} {p_c : Option Addr} {c : List (List Int)} (h_c : Blk w b_c #[.slice p_c c.length c_c] 24) (v_c : RRows 0 w.heap.size w (.slice p_c c.length c_c) c) {R C : Nat} {T : Int} (hc : Chan c R C T) (hx : x < R) (hy : y < C) :
    Calls Try.prog 49 #[.int .i64 ((x : Nat) : Int), .int .i64 ((y : Nat) : Int), .pointer (some ⟨b_c, 0, none⟩)] w (Ret fun r w' => r = .int .i64 ((c[x]!)[y]!) ∧ Below w.heap.size w w') := by
  have hR := hc.rows
  have hW := hc.width x hx
  have hB0 : Below w.heap.size w w := Below.refl _ _
  refine Ev.calls (l := [.int .i64 ((x : Nat) : Int), .int .i64 ((y : Nat) : Int), .pointer (some ⟨b_c, 0, none⟩)]) Try.func49 rfl rfl rfl ?_
  change CW _ _ _ _ [(0, .int .i64 ((x : Nat) : Int)), (1, .int .i64 ((y : Nat) : Int)), (2, .pointer (some ⟨b_c, 0, none⟩))] _
  refine CW.seq ?_
  refine CW.region ?_
  refine RW.yl rfl rfl rfl (Yl.assign rfl rfl) ?_
  refine RW.nil ?_
  change CW _ _ _ _ _ _
  refine CW.seq ?_
  refine CW.region ?_
  refine RW.yl rfl rfl rfl (Yl.fieldAddr rfl rfl Try.underlying24 rfl sz22) ?_
  refine RW.yl rfl rfl rfl (Yl.load rfl rfl one22 (Blk.cell h_c rfl)) ?_
  refine RW.yl rfl rfl rfl (Yl.move rfl rfl) ?_
  obtain ⟨bx1, ox1, px1, cx1, hp1, hl1, hh1, hc1, hx1, hn1⟩ := v_c.at x (by omega)
  refine RW.yl rfl rfl rfl (Yl.indexAddr1 (k := x) rfl rfl rfl Try.underlying22 sz31 hp1 rfl (by omega)) ?_
  refine RW.yl rfl rfl rfl (Yl.load rfl rfl one31 hc1) ?_
  refine RW.yl rfl rfl rfl (Yl.move rfl rfl) ?_
  obtain ⟨bx2, ox2, hp2, hl2, hh2, hc2⟩ := hx1.at y (by omega)
  refine RW.yl rfl rfl rfl (Yl.indexAddr1 (k := y) rfl rfl rfl Try.underlying31 sz3 hp2 rfl (by omega)) ?_
  refine RW.yl rfl rfl rfl (Yl.load rfl rfl one3 hc2) ?_
  refine RW.yl rfl rfl rfl (Yl.assign rfl rfl) ?_
  refine RW.nil ?_
  change CW _ _ _ _ _ _
  refine CW.ret ?_
  change FinQ _ _ _ _ _ _
  refine fin1 (.inr rfl) rfl rfl ?_
  exact ⟨_, rfl, rfl, hB0⟩

theorem c44 {w : World} {x y : Nat} {b_c c_c : Nat} {p_c : Option Addr} {c : List (List Int)} (h_c : Blk w b_c #[.slice p_c c.length c_c] 24) (v_c : RRows 0 w.heap.size w (.slice p_c c.length c_c) c) {b_d c_d : Nat} {p_d : Option Addr} {d : List (List Int)} (h_d : Blk w b_d #[.slice p_d d.length c_d] 24) (v_d : RRows 0 w.heap.size w (.slice p_d d.length c_d) d) {R C : Nat} {T : Int} (hc : Chan c R C T) {R2 C2 : Nat} {T2 : Int} (hd : Chan d R2 C2 T2) (hj : C = R2) (hx : x < R) (hy : y < C2) :
    Calls Try.prog 44 #[.int .i64 ((x : Nat) : Int), .int .i64 ((y : Nat) : Int), .pointer (some ⟨b_c, 0, none⟩), .pointer (some ⟨b_d, 0, none⟩)] w (Ret fun r w' => r = .int .i64 (sumTo d.length fun k => ((c[x]!)[k]!) * ((d[k]!)[y]!)) ∧ Below w.heap.size w w') := by
  have hR := hc.rows
  have hW := hc.width x hx
  have hR2 := hd.rows
  have hC2 := hc.c2
  have hB0 : Below w.heap.size w w := Below.refl _ _
  refine Ev.calls (l := [.int .i64 ((x : Nat) : Int), .int .i64 ((y : Nat) : Int), .pointer (some ⟨b_c, 0, none⟩), .pointer (some ⟨b_d, 0, none⟩)]) Try.func44 rfl rfl rfl ?_
  change CW _ _ _ _ [(0, .int .i64 ((x : Nat) : Int)), (1, .int .i64 ((y : Nat) : Int)), (2, .pointer (some ⟨b_c, 0, none⟩)), (3, .pointer (some ⟨b_d, 0, none⟩))] _
  refine CW.seq ?_
  refine CW.region ?_
  refine RW.yl rfl rfl rfl (Yl.assign rfl rfl) ?_
  refine RW.nil ?_
  change CW _ _ _ _ _ _
  refine CW.seq ?_
  refine CW.region ?_
  refine RW.yl rfl rfl rfl (Yl.assign rfl rfl) ?_
  refine RW.nil ?_
  change CW _ _ _ _ _ _
  refine CW.seq ?_
  refine CW.seq ?_
  refine CW.region ?_
  refine RW.yl rfl rfl rfl (Yl.fieldAddr rfl rfl Try.underlying24 rfl sz22) ?_
  refine RW.yl rfl rfl rfl (Yl.load rfl rfl one22 (Blk.cell h_c rfl)) ?_
  refine RW.yl rfl rfl rfl (Yl.move rfl rfl) ?_
  obtain ⟨bx1, ox1, px1, cx1, hp1, hl1, hh1, hc1, hx1, hn1⟩ := v_c.at x (by first | omega | (have := hWd (by omega); omega))
  refine RW.yl rfl rfl rfl (Yl.indexAddr1 (k := x) rfl rfl rfl Try.underlying22 sz31 hp1 rfl (by first | omega | (have := hWd (by omega); omega))) ?_
  refine RW.yl rfl rfl rfl (Yl.load rfl rfl one31 hc1) ?_
  refine RW.yl rfl rfl rfl (Yl.len rfl rfl Try.underlying31) ?_
  refine RW.yl rfl rfl rfl (Yl.move rfl rfl) ?_
  refine RW.nil ?_
  change CW _ _ _ _ _ _
  refine CW.block ?_
  refine CW.loop2 (fun (k : Nat) (s : Int) => [(1, .int .i64 ((y : Nat) : Int)), (3, .pointer (some ⟨b_d, 0, none⟩)), (6, .int .i64 0), (7, .int .i64 s), (14, .slice px1 ((c[x]!).length) cx1), (15, .int .i64 (((c[x]!).length : Nat) : Int)), (16, .int .i64 ((k : Nat) : Int))]) (fun k s gm W => (gm = (c[x]!).length - k) ∧ (k ≤ (c[x]!).length) ∧ (s = sumTo k fun k => ((c[x]!)[k]!) * ((d[k]!)[y]!)) ∧ (0 ≤ s) ∧ (s ≤ 1099511627776 * k) ∧ (Below w.heap.size w W) ∧ (Blk W b_c #[.slice p_c c.length c_c] 24) ∧ (Blk W b_d #[.slice p_d d.length c_d] 24) ∧ (w.heap.size ≤ W.heap.size)) 0 0 ((c[x]!).length - 0) ⟨rfl, (by first | assumption | omega | rfl | (first | (subst hi2; rfl) | (have := hE (by omega); omega))), (by first | assumption | omega | rfl | (first | (subst hi2; rfl) | (have := hE (by omega); omega))), (by first | assumption | omega | rfl | (first | (subst hi2; rfl) | (have := hE (by omega); omega))), (by first | assumption | omega | rfl | (first | (subst hi2; rfl) | (have := hE (by omega); omega))), hB0, h_c, h_d, (by omega)⟩ (Sub.cons rfl (Sub.cons rfl (Sub.cons rfl (Sub.cons rfl (Sub.cons rfl (Sub.cons rfl (Sub.cons rfl (Sub.nil)))))))) ?_
  intro k s gm1 w1 hinv
  obtain ⟨hm1, hi1, hi2, hi3, hi4, hB1, hK1, hK2, hz1⟩ := hinv
  change CW _ _ _ _ [(1, .int .i64 ((y : Nat) : Int)), (3, .pointer (some ⟨b_d, 0, none⟩)), (6, .int .i64 0), (7, .int .i64 s), (14, .slice px1 ((c[x]!).length) cx1), (15, .int .i64 (((c[x]!).length : Nat) : Int)), (16, .int .i64 ((k : Nat) : Int))] _
  have hE : k < C → 0 ≤ ((c[x]!)[k]!) * ((d[k]!)[y]!) ∧ ((c[x]!)[k]!) * ((d[k]!)[y]!) ≤ 1099511627776 := fun h => mul_small (hc.entry x k hx h) (hd.entry k y (by omega) hy)
  have hWd : k < R2 → (d[k]!).length = C2 := fun h => hd.width k h
  refine CW.seq ?_
  refine CW.region ?_
  refine RW.yl rfl rfl rfl (Yl.lss rfl rfl rfl) ?_
  refine RW.nil ?_
  change CW _ _ _ _ _ _
  refine CW.seq ?_
  refine CW.cond rfl ?_ ?_
  ·
    intro hg1
    have hq2 := of_decide_eq_true hg1
    first
    | (exfalso; omega)
    | (
      refine CW.skip ?_
      change CW _ _ _ _ _ _
      refine CW.seq ?_
      refine CW.block ?_
      refine CW.seq ?_
      refine CW.region ?_
      refine RW.yl rfl rfl rfl (Yl.move rfl rfl) ?_
      obtain ⟨bx2, ox2, hp2, hl2, hh2, hc2⟩ := (hx1.mono (kept_from hB0 hB1 (Nat.le_refl _))).at k (by first | omega | (have := hWd (by omega); omega))
      refine RW.yl rfl rfl rfl (Yl.indexAddr1 (k := k) rfl rfl rfl Try.underlying31 sz3 hp2 rfl (by first | omega | (have := hWd (by omega); omega))) ?_
      refine RW.yl rfl rfl rfl (Yl.load rfl rfl one3 hc2) ?_
      refine RW.yl rfl rfl rfl (Yl.assign rfl rfl) ?_
      refine RW.yl rfl rfl rfl (Yl.assign rfl rfl) ?_
      refine RW.nil ?_
      change CW _ _ _ _ _ _
      refine CW.region ?_
      refine RW.yl rfl rfl rfl (Yl.move rfl rfl) ?_
      refine RW.yl rfl rfl rfl (Yl.move rfl rfl) ?_
      refine RW.yl rfl rfl rfl (Yl.fieldAddr rfl rfl Try.underlying24 rfl sz22) ?_
      refine RW.yl rfl rfl rfl (Yl.load rfl rfl one22 (Blk.cell hK2 rfl)) ?_
      refine RW.yl rfl rfl rfl (Yl.move rfl rfl) ?_
      obtain ⟨bx3, ox3, px2, cx2, hp3, hl3, hh3, hc3, hx2, hn2⟩ := (v_d.mono (kept_from hB0 hB1 (Nat.le_refl _))).at k (by first | omega | (have := hWd (by omega); omega))
      refine RW.yl rfl rfl rfl (Yl.indexAddr1 (k := k) rfl rfl rfl Try.underlying22 sz31 hp3 rfl (by first | omega | (have := hWd (by omega); omega))) ?_
      refine RW.yl rfl rfl rfl (Yl.load rfl rfl one31 hc3) ?_
      refine RW.yl rfl rfl rfl (Yl.move rfl rfl) ?_
      obtain ⟨bx4, ox4, hp4, hl4, hh4, hc4⟩ := hx2.at y (by first | omega | (have := hWd (by omega); omega))
      refine RW.yl rfl rfl rfl (Yl.indexAddr1 (k := y) rfl rfl rfl Try.underlying31 sz3 hp4 rfl (by first | omega | (have := hWd (by omega); omega))) ?_
      refine RW.yl rfl rfl rfl (Yl.load rfl rfl one3 hc4) ?_
      refine RW.yl rfl rfl rfl (Yl.mul (m := ((c[x]!)[k]!)) (n := ((d[k]!)[y]!)) rfl rfl rfl (by first | omega | (have := hE (by omega); omega))) ?_
      refine RW.yl rfl rfl rfl (Yl.add (m := s) (n := ((c[x]!)[k]!) * ((d[k]!)[y]!)) rfl rfl rfl (by first | omega | (have := hE (by omega); omega))) ?_
      refine RW.yl rfl rfl rfl (Yl.assign rfl rfl) ?_
      refine RW.nil ?_
      change CW _ _ _ _ _ _
      refine CW.region ?_
      refine RW.yl rfl rfl rfl (Yl.addN (a := k) (b := 1) rfl rfl rfl (by first | omega | (have := hE (by omega); omega))) ?_
      refine RW.yl rfl rfl rfl (Yl.move rfl rfl) ?_
      refine RW.nil ?_
      refine ⟨(k + 1, s + (((c[x]!)[k]!) * ((d[k]!)[y]!))), (c[x]!).length - (k + 1), by omega, ⟨rfl, (by first | assumption | omega | rfl | (first | (subst hi2; rfl) | (have := hE (by omega); omega))), (by first | assumption | omega | rfl | (first | (subst hi2; rfl) | (have := hE (by omega); omega))), (by first | assumption | omega | rfl | (first | (subst hi2; rfl) | (have := hE (by omega); omega))), (by first | assumption | omega | rfl | (first | (subst hi2; rfl) | (have := hE (by omega); omega))), hB1, hK1, hK2, (by omega)⟩, Sub.cons rfl (Sub.cons rfl (Sub.cons rfl (Sub.cons rfl (Sub.cons rfl (Sub.cons rfl (Sub.cons rfl (Sub.nil)))))))⟩)
  ·
    intro hg2
    have hq4 := of_decide_eq_false hg2
    first
    | (exfalso; omega)
    | (
      refine CW.exit ?_
      change CW _ _ _ _ _ _
      refine CW.seq ?_
      refine CW.region ?_
      refine RW.yl rfl rfl rfl (Yl.move rfl rfl) ?_
      refine RW.yl rfl rfl rfl (Yl.assign rfl rfl) ?_
      refine RW.nil ?_
      change CW _ _ _ _ _ _
      refine CW.ret ?_
      change FinQ _ _ _ _ _ _
      refine fin1 (.inr rfl) rfl rfl ?_
      exact ⟨_, rfl, ival (by rw [hi2, show k = d.length by omega]), hB1⟩)

theorem c45 {w : World} {x y : Nat} {b_d c_d : Nat} {p_d : Option Addr} {d : List (List Int)} (h_d : Blk w b_d #[.slice p_d d.length c_d] 24) (v_d : RRows 0 w.heap.size w (.slice p_d d.length c_d) d) {b_c c_c : Nat} {p_c : Option Addr} {c : List (List Int)} (h_c : Blk w b_c #[.slice p_c c.length c_c] 24) (v_c : RRows 0 w.heap.size w (.slice p_c c.length c_c) c) {R C : Nat} {T : Int} (hc : Chan c R C T) {R2 C2 : Nat} {T2 : Int} (hd : Chan d R2 C2 T2) (hj : C = R2) (hx : x < R) (hy : y < C2) :
    Calls Try.prog 45 #[.int .i64 ((x : Nat) : Int), .int .i64 ((y : Nat) : Int), .pointer (some ⟨b_d, 0, none⟩), .pointer (some ⟨b_c, 0, none⟩)] w (Ret fun r w' => r = .int .i64 (sumTo d.length fun k => ((c[x]!)[k]!) * ((d[k]!)[y]!)) ∧ Below w.heap.size w w') := by
  have hR := hc.rows
  have hW := hc.width x hx
  have hR2 := hd.rows
  have hC2 := hc.c2
  have hB0 : Below w.heap.size w w := Below.refl _ _
  refine Ev.calls (l := [.int .i64 ((x : Nat) : Int), .int .i64 ((y : Nat) : Int), .pointer (some ⟨b_d, 0, none⟩), .pointer (some ⟨b_c, 0, none⟩)]) Try.func45 rfl rfl rfl ?_
  change CW _ _ _ _ [(0, .int .i64 ((x : Nat) : Int)), (1, .int .i64 ((y : Nat) : Int)), (2, .pointer (some ⟨b_d, 0, none⟩)), (3, .pointer (some ⟨b_c, 0, none⟩))] _
  refine CW.seq ?_
  refine CW.region ?_
  refine RW.yl rfl rfl rfl (Yl.assign rfl rfl) ?_
  refine RW.nil ?_
  change CW _ _ _ _ _ _
  refine CW.seq ?_
  refine CW.region ?_
  refine RW.yl rfl rfl rfl (Yl.assign rfl rfl) ?_
  refine RW.nil ?_
  change CW _ _ _ _ _ _
  refine CW.seq ?_
  refine CW.seq ?_
  refine CW.region ?_
  refine RW.yl rfl rfl rfl (Yl.fieldAddr rfl rfl Try.underlying24 rfl sz22) ?_
  refine RW.yl rfl rfl rfl (Yl.load rfl rfl one22 (Blk.cell h_d rfl)) ?_
  refine RW.yl rfl rfl rfl (Yl.len rfl rfl Try.underlying22) ?_
  refine RW.yl rfl rfl rfl (Yl.move rfl rfl) ?_
  refine RW.nil ?_
  change CW _ _ _ _ _ _
  refine CW.block ?_
  refine CW.loop2 (fun (k : Nat) (s : Int) => [(0, .int .i64 ((x : Nat) : Int)), (1, .int .i64 ((y : Nat) : Int)), (2, .pointer (some ⟨b_d, 0, none⟩)), (3, .pointer (some ⟨b_c, 0, none⟩)), (6, .int .i64 0), (7, .int .i64 s), (11, .int .i64 ((d.length : Nat) : Int)), (12, .int .i64 ((k : Nat) : Int))]) (fun k s gm W => (gm = d.length - k) ∧ (k ≤ d.length) ∧ (s = sumTo k fun k => ((c[x]!)[k]!) * ((d[k]!)[y]!)) ∧ (0 ≤ s) ∧ (s ≤ 1099511627776 * k) ∧ (Below w.heap.size w W) ∧ (Blk W b_d #[.slice p_d d.length c_d] 24) ∧ (Blk W b_c #[.slice p_c c.length c_c] 24) ∧ (w.heap.size ≤ W.heap.size)) 0 0 (d.length - 0) ⟨rfl, (by first | assumption | omega | rfl | (first | (subst hi2; rfl) | (have := hE (by omega); omega))), (by first | assumption | omega | rfl | (first | (subst hi2; rfl) | (have := hE (by omega); omega))), (by first | assumption | omega | rfl | (first | (subst hi2; rfl) | (have := hE (by omega); omega))), (by first | assumption | omega | rfl | (first | (subst hi2; rfl) | (have := hE (by omega); omega))), hB0, h_d, h_c, (by omega)⟩ (Sub.cons rfl (Sub.cons rfl (Sub.cons rfl (Sub.cons rfl (Sub.cons rfl (Sub.cons rfl (Sub.cons rfl (Sub.cons rfl (Sub.nil))))))))) ?_
  intro k s gm1 w1 hinv
  obtain ⟨hm1, hi1, hi2, hi3, hi4, hB1, hK1, hK2, hz1⟩ := hinv
  change CW _ _ _ _ [(0, .int .i64 ((x : Nat) : Int)), (1, .int .i64 ((y : Nat) : Int)), (2, .pointer (some ⟨b_d, 0, none⟩)), (3, .pointer (some ⟨b_c, 0, none⟩)), (6, .int .i64 0), (7, .int .i64 s), (11, .int .i64 ((d.length : Nat) : Int)), (12, .int .i64 ((k : Nat) : Int))] _
  have hE : k < C → 0 ≤ ((c[x]!)[k]!) * ((d[k]!)[y]!) ∧ ((c[x]!)[k]!) * ((d[k]!)[y]!) ≤ 1099511627776 := fun h => mul_small (hc.entry x k hx h) (hd.entry k y (by omega) hy)
  have hWd : k < R2 → (d[k]!).length = C2 := fun h => hd.width k h
  refine CW.seq ?_
  refine CW.region ?_
  refine RW.yl rfl rfl rfl (Yl.lss rfl rfl rfl) ?_
  refine RW.nil ?_
  change CW _ _ _ _ _ _
  refine CW.seq ?_
  refine CW.cond rfl ?_ ?_
  ·
    intro hg1
    have hq2 := of_decide_eq_true hg1
    first
    | (exfalso; omega)
    | (
      refine CW.skip ?_
      change CW _ _ _ _ _ _
      refine CW.seq ?_
      refine CW.block ?_
      refine CW.seq ?_
      refine CW.region ?_
      refine RW.yl rfl rfl rfl (Yl.move rfl rfl) ?_
      refine RW.yl rfl rfl rfl (Yl.assign rfl rfl) ?_
      refine RW.nil ?_
      change CW _ _ _ _ _ _
      refine CW.draw 20 rfl (Kp []) (by kernel_rfl) ?_
      intro w2 H1
      have hB2 := Bl.step hB1 H1
      have hK3 := Blk.below hK1 H1
      have hK4 := Blk.below hK2 H1
      have hz2 := H1.size
      have hS1 := Kp.refl [] w2
      refine RH.take 0 rfl (by kernel_rfl) rfl rfl rfl hS1 (fun W1 hW1 => Yl.move rfl rfl) ?_
      refine RH.take 1 rfl (by kernel_rfl) rfl rfl rfl hS1 (fun W2 hW2 => Yl.fieldAddr rfl rfl Try.underlying24 rfl sz22) ?_
      refine RH.take 2 rfl (by kernel_rfl) rfl rfl rfl hS1 (fun W3 hW3 => Yl.load rfl rfl one22 (Blk.cell (Kp.blk hW3 hK4 (by simp)) rfl)) ?_
      refine RH.take 3 rfl (by kernel_rfl) rfl rfl rfl hS1 (fun W4 hW4 => Yl.move rfl rfl) ?_
      obtain ⟨bx1, ox1, px1, cx1, hp1, hl1, hh1, hc1, hx1, hn1⟩ := (v_c.mono (kept_from hB0 hB2 (Nat.le_refl _))).at x (by first | omega | (have := hWd (by omega); omega))
      refine RH.take 4 rfl (by kernel_rfl) rfl rfl rfl hS1 (fun W5 hW5 => Yl.indexAddr1 (k := x) rfl rfl rfl Try.underlying22 sz31 hp1 rfl (by first | omega | (have := hWd (by omega); omega))) ?_
      refine RH.take 5 rfl (by kernel_rfl) rfl rfl rfl hS1 (fun W6 hW6 => Yl.load rfl rfl one31 (Kp.cell hW6 hc1 (by simp))) ?_
      refine RH.take 6 rfl (by kernel_rfl) rfl rfl rfl hS1 (fun W7 hW7 => Yl.move rfl rfl) ?_
      obtain ⟨bx2, ox2, hp2, hl2, hh2, hc2⟩ := hx1.at k (by first | omega | (have := hWd (by omega); omega))
      refine RH.take 7 rfl (by kernel_rfl) rfl rfl rfl hS1 (fun W8 hW8 => Yl.indexAddr1 (k := k) rfl rfl rfl Try.underlying31 sz3 hp2 rfl (by first | omega | (have := hWd (by omega); omega))) ?_
      refine RH.take 8 rfl (by kernel_rfl) rfl rfl rfl hS1 (fun W9 hW9 => Yl.load rfl rfl one3 (Kp.cell hW9 hc2 (by simp))) ?_
      refine RH.take 9 rfl (by kernel_rfl) rfl rfl rfl hS1 (fun W10 hW10 => Yl.fieldAddr rfl rfl Try.underlying24 rfl sz22) ?_
      refine RH.take 10 rfl (by kernel_rfl) rfl rfl rfl hS1 (fun W11 hW11 => Yl.load rfl rfl one22 (Blk.cell (Kp.blk hW11 hK3 (by simp)) rfl)) ?_
      refine RH.take 11 rfl (by kernel_rfl) rfl rfl rfl hS1 (fun W12 hW12 => Yl.move rfl rfl) ?_
      obtain ⟨bx3, ox3, px2, cx2, hp3, hl3, hh3, hc3, hx2, hn2⟩ := (v_d.mono (kept_from hB0 hB2 (Nat.le_refl _))).at k (by first | omega | (have := hWd (by omega); omega))
      refine RH.take 12 rfl (by kernel_rfl) rfl rfl rfl hS1 (fun W13 hW13 => Yl.indexAddr1 (k := k) rfl rfl rfl Try.underlying22 sz31 hp3 rfl (by first | omega | (have := hWd (by omega); omega))) ?_
      refine RH.take 13 rfl (by kernel_rfl) rfl rfl rfl hS1 (fun W14 hW14 => Yl.load rfl rfl one31 (Kp.cell hW14 hc3 (by simp))) ?_
      refine RH.take 14 rfl (by kernel_rfl) rfl rfl rfl hS1 (fun W15 hW15 => Yl.move rfl rfl) ?_
      obtain ⟨bx4, ox4, hp4, hl4, hh4, hc4⟩ := hx2.at y (by first | omega | (have := hWd (by omega); omega))
      refine RH.take 15 rfl (by kernel_rfl) rfl rfl rfl hS1 (fun W16 hW16 => Yl.indexAddr1 (k := y) rfl rfl rfl Try.underlying31 sz3 hp4 rfl (by first | omega | (have := hWd (by omega); omega))) ?_
      refine RH.take 16 rfl (by kernel_rfl) rfl rfl rfl hS1 (fun W17 hW17 => Yl.load rfl rfl one3 (Kp.cell hW17 hc4 (by simp))) ?_
      refine RH.take 17 rfl (by kernel_rfl) rfl rfl rfl hS1 (fun W18 hW18 => Yl.mul (m := ((c[x]!)[k]!)) (n := ((d[k]!)[y]!)) rfl rfl rfl (by first | omega | (have := hE (by omega); omega))) ?_
      refine RH.take 18 rfl (by kernel_rfl) rfl rfl rfl hS1 (fun W19 hW19 => Yl.add (m := s) (n := ((c[x]!)[k]!) * ((d[k]!)[y]!)) rfl rfl rfl (by first | omega | (have := hE (by omega); omega))) ?_
      refine RH.take 19 rfl (by kernel_rfl) rfl rfl rfl hS1 (fun W20 hW20 => Yl.assign rfl rfl) ?_
      refine RH.done (by kernel_rfl) ?_
      change CW _ _ _ _ _ _
      refine CW.region ?_
      refine RW.yl rfl rfl rfl (Yl.addN (a := k) (b := 1) rfl rfl rfl (by first | omega | (have := hE (by omega); omega))) ?_
      refine RW.yl rfl rfl rfl (Yl.move rfl rfl) ?_
      refine RW.nil ?_
      refine ⟨(k + 1, s + (((c[x]!)[k]!) * ((d[k]!)[y]!))), d.length - (k + 1), by omega, ⟨rfl, (by first | assumption | omega | rfl | (first | (subst hi2; rfl) | (have := hE (by omega); omega))), (by first | assumption | omega | rfl | (first | (subst hi2; rfl) | (have := hE (by omega); omega))), (by first | assumption | omega | rfl | (first | (subst hi2; rfl) | (have := hE (by omega); omega))), (by first | assumption | omega | rfl | (first | (subst hi2; rfl) | (have := hE (by omega); omega))), hB2, hK3, hK4, (by omega)⟩, Sub.cons rfl (Sub.cons rfl (Sub.cons rfl (Sub.cons rfl (Sub.cons rfl (Sub.cons rfl (Sub.cons rfl (Sub.cons rfl (Sub.nil))))))))⟩)
  ·
    intro hg2
    have hq4 := of_decide_eq_false hg2
    first
    | (exfalso; omega)
    | (
      refine CW.exit ?_
      change CW _ _ _ _ _ _
      refine CW.seq ?_
      refine CW.region ?_
      refine RW.yl rfl rfl rfl (Yl.move rfl rfl) ?_
      refine RW.yl rfl rfl rfl (Yl.assign rfl rfl) ?_
      refine RW.nil ?_
      change CW _ _ _ _ _ _
      refine CW.ret ?_
      change FinQ _ _ _ _ _ _
      refine fin1 (.inr rfl) rfl rfl ?_
      exact ⟨_, rfl, ival (by rw [hi2, show k = d.length by omega]), hB1⟩)

theorem c46 {w : World} {x y : Nat} {b_c c_c : Nat} {p_c : Option Addr} {c : List (List Int)} (h_c : Blk w b_c #[.slice p_c c.length c_c] 24) (v_c : RRows 0 w.heap.size w (.slice p_c c.length c_c) c) {b_k : Nat} {k : Nat} (h_k : Blk w b_k #[.int .i64 ((k : Nat) : Int)] 3) {b_d c_d : Nat} {p_d : Option Addr} {d : List (List Int)} (h_d : Blk w b_d #[.slice p_d d.length c_d] 24) (v_d : RRows 0 w.heap.size w (.slice p_d d.length c_d) d) {R C : Nat} {T : Int} (hc : Chan c R C T) {R2 C2 : Nat} {T2 : Int} (hd : Chan d R2 C2 T2) (hk : k = C2) (hx : x < R) (hx2 : x < R2) (hy : y < C * C2) :
    Calls Try.prog 46 #[.int .i64 ((x : Nat) : Int), .int .i64 ((y : Nat) : Int), .pointer (some ⟨b_c, 0, none⟩), .pointer (some ⟨b_k, 0, none⟩), .pointer (some ⟨b_d, 0, none⟩)] w (Ret fun r w' => r = .int .i64 (((c[x]!)[y / k]!) * ((d[x]!)[y % k]!)) ∧ Below w.heap.size w w') := by
  have hR := hc.rows
  have hW := hc.width x hx
  have hR2 := hd.rows
  have hW2 := hd.width x hx2
  have hC2 := hd.c1
  have hk0 : 0 < k := by omega
  have hq : y / k < C := Nat.div_lt_of_lt_mul (by rw [hk, Nat.mul_comm]; exact hy)
  have hr : y % k < C2 := by rw [← hk]; exact Nat.mod_lt _ hk0
  have hm : C * C2 ≤ 256 * 256 := Nat.mul_le_mul hc.c2 hd.c2
  have hE := mul_small (hc.entry x (y / k) hx hq) (hd.entry x (y % k) hx2 hr)
  have hB0 : Below w.heap.size w w := Below.refl _ _
  refine Ev.calls (l := [.int .i64 ((x : Nat) : Int), .int .i64 ((y : Nat) : Int), .pointer (some ⟨b_c, 0, none⟩), .pointer (some ⟨b_k, 0, none⟩), .pointer (some ⟨b_d, 0, none⟩)]) Try.func46 rfl rfl rfl ?_
  change CW _ _ _ _ [(0, .int .i64 ((x : Nat) : Int)), (1, .int .i64 ((y : Nat) : Int)), (2, .pointer (some ⟨b_c, 0, none⟩)), (3, .pointer (some ⟨b_k, 0, none⟩)), (4, .pointer (some ⟨b_d, 0, none⟩))] _
  refine CW.seq ?_
  refine CW.region ?_
  refine RW.yl rfl rfl rfl (Yl.assign rfl rfl) ?_
  refine RW.nil ?_
  change CW _ _ _ _ _ _
  refine CW.seq ?_
  refine CW.draw 22 rfl (Kp []) (by kernel_rfl) ?_
  intro w1 H1
  have hB1 := Bl.step hB0 H1
  have hK1 := Blk.below h_c H1
  have hK2 := Blk.below h_k H1
  have hK3 := Blk.below h_d H1
  have hz1 := H1.size
  have hS1 := Kp.refl [] w1
  refine RH.take 0 rfl (by kernel_rfl) rfl rfl rfl hS1 (fun W1 hW1 => Yl.fieldAddr rfl rfl Try.underlying24 rfl sz22) ?_
  refine RH.take 1 rfl (by kernel_rfl) rfl rfl rfl hS1 (fun W2 hW2 => Yl.load rfl rfl one22 (Blk.cell (Kp.blk hW2 hK1 (by simp)) rfl)) ?_
  refine RH.take 2 rfl (by kernel_rfl) rfl rfl rfl hS1 (fun W3 hW3 => Yl.move rfl rfl) ?_
  obtain ⟨bx1, ox1, px1, cx1, hp1, hl1, hh1, hc1, hx1, hn1⟩ := (v_c.mono (kept_from hB0 hB1 (Nat.le_refl _))).at x (by omega)
  refine RH.take 3 rfl (by kernel_rfl) rfl rfl rfl hS1 (fun W4 hW4 => Yl.indexAddr1 (k := x) rfl rfl rfl Try.underlying22 sz31 hp1 rfl (by omega)) ?_
  refine RH.take 4 rfl (by kernel_rfl) rfl rfl rfl hS1 (fun W5 hW5 => Yl.load rfl rfl one31 (Kp.cell hW5 hc1 (by simp))) ?_
  refine RH.take 5 rfl (by kernel_rfl) rfl rfl rfl hS1 (fun W6 hW6 => Yl.move rfl rfl) ?_
  refine RH.take 6 rfl (by kernel_rfl) rfl rfl rfl hS1 (fun W7 hW7 => Yl.load rfl rfl one3 (Blk.cell (Kp.blk hW7 hK2 (by simp)) rfl)) ?_
  refine RH.take 7 rfl (by kernel_rfl) rfl rfl rfl hS1 (fun W8 hW8 => Yl.quoN (a := y) (b := k) rfl rfl rfl (by omega)) ?_
  obtain ⟨bx2, ox2, hp2, hl2, hh2, hc2⟩ := hx1.at (y / k) (by omega)
  refine RH.take 8 rfl (by kernel_rfl) rfl rfl rfl hS1 (fun W9 hW9 => Yl.indexAddr1 (k := y / k) rfl rfl rfl Try.underlying31 sz3 hp2 rfl (by omega)) ?_
  refine RH.take 9 rfl (by kernel_rfl) rfl rfl rfl hS1 (fun W10 hW10 => Yl.load rfl rfl one3 (Kp.cell hW10 hc2 (by simp))) ?_
  refine RH.take 10 rfl (by kernel_rfl) rfl rfl rfl hS1 (fun W11 hW11 => Yl.fieldAddr rfl rfl Try.underlying24 rfl sz22) ?_
  refine RH.take 11 rfl (by kernel_rfl) rfl rfl rfl hS1 (fun W12 hW12 => Yl.load rfl rfl one22 (Blk.cell (Kp.blk hW12 hK3 (by simp)) rfl)) ?_
  refine RH.take 12 rfl (by kernel_rfl) rfl rfl rfl hS1 (fun W13 hW13 => Yl.move rfl rfl) ?_
  obtain ⟨bx3, ox3, px2, cx2, hp3, hl3, hh3, hc3, hx2, hn2⟩ := (v_d.mono (kept_from hB0 hB1 (Nat.le_refl _))).at x (by omega)
  refine RH.take 13 rfl (by kernel_rfl) rfl rfl rfl hS1 (fun W14 hW14 => Yl.indexAddr1 (k := x) rfl rfl rfl Try.underlying22 sz31 hp3 rfl (by omega)) ?_
  refine RH.take 14 rfl (by kernel_rfl) rfl rfl rfl hS1 (fun W15 hW15 => Yl.load rfl rfl one31 (Kp.cell hW15 hc3 (by simp))) ?_
  refine RH.take 15 rfl (by kernel_rfl) rfl rfl rfl hS1 (fun W16 hW16 => Yl.move rfl rfl) ?_
  refine RH.take 16 rfl (by kernel_rfl) rfl rfl rfl hS1 (fun W17 hW17 => Yl.load rfl rfl one3 (Blk.cell (Kp.blk hW17 hK2 (by simp)) rfl)) ?_
  refine RH.take 17 rfl (by kernel_rfl) rfl rfl rfl hS1 (fun W18 hW18 => Yl.remN (a := y) (b := k) rfl rfl rfl (by omega)) ?_
  obtain ⟨bx4, ox4, hp4, hl4, hh4, hc4⟩ := hx2.at (y % k) (by omega)
  refine RH.take 18 rfl (by kernel_rfl) rfl rfl rfl hS1 (fun W19 hW19 => Yl.indexAddr1 (k := y % k) rfl rfl rfl Try.underlying31 sz3 hp4 rfl (by omega)) ?_
  refine RH.take 19 rfl (by kernel_rfl) rfl rfl rfl hS1 (fun W20 hW20 => Yl.load rfl rfl one3 (Kp.cell hW20 hc4 (by simp))) ?_
  refine RH.take 20 rfl (by kernel_rfl) rfl rfl rfl hS1 (fun W21 hW21 => Yl.mul (m := ((c[x]!)[y / k]!)) (n := ((d[x]!)[y % k]!)) rfl rfl rfl (by omega)) ?_
  refine RH.take 21 rfl (by kernel_rfl) rfl rfl rfl hS1 (fun W22 hW22 => Yl.assign rfl rfl) ?_
  refine RH.done (by kernel_rfl) ?_
  change CW _ _ _ _ _ _
  refine CW.ret ?_
  change FinQ _ _ _ _ _ _
  refine fin1 (.inr rfl) rfl rfl ?_
  exact ⟨_, rfl, rfl, hB1⟩

theorem c47 {w : World} {x y : Nat} {b_c c_c : Nat} {p_c : Option Addr} {c : List (List Int)} (h_c : Blk w b_c #[.slice p_c c.length c_c] 24) (v_c : RRows 0 w.heap.size w (.slice p_c c.length c_c) c) {b_k : Nat} {k : Nat} (h_k : Blk w b_k #[.int .i64 ((k : Nat) : Int)] 3) {b_d c_d : Nat} {p_d : Option Addr} {d : List (List Int)} (h_d : Blk w b_d #[.slice p_d d.length c_d] 24) (v_d : RRows 0 w.heap.size w (.slice p_d d.length c_d) d) {R C : Nat} {T : Int} (hc : Chan c R C T) {R2 C2 : Nat} {T2 : Int} (hd : Chan d R2 C2 T2) (hk : k = C2) (hx : x < R) (hx2 : x < R2) (hy : y < C * C2) :
    Calls Try.prog 47 #[.int .i64 ((x : Nat) : Int), .int .i64 ((y : Nat) : Int), .pointer (some ⟨b_c, 0, none⟩), .pointer (some ⟨b_k, 0, none⟩), .pointer (some ⟨b_d, 0, none⟩)] w (Ret fun r w' => r = .int .i64 (((c[x]!)[y / k]!) * ((d[x]!)[y % k]!)) ∧ Below w.heap.size w w') := by
  have hR := hc.rows
  have hW := hc.width x hx
  have hR2 := hd.rows
  have hW2 := hd.width x hx2
  have hC2 := hd.c1
  have hk0 : 0 < k := by omega
  have hq : y / k < C := Nat.div_lt_of_lt_mul (by rw [hk, Nat.mul_comm]; exact hy)
  have hr : y % k < C2 := by rw [← hk]; exact Nat.mod_lt _ hk0
  have hm : C * C2 ≤ 256 * 256 := Nat.mul_le_mul hc.c2 hd.c2
  have hE := mul_small (hc.entry x (y / k) hx hq) (hd.entry x (y % k) hx2 hr)
  have hB0 : Below w.heap.size w w := Below.refl _ _
  refine Ev.calls (l := [.int .i64 ((x : Nat) : Int), .int .i64 ((y : Nat) : Int), .pointer (some ⟨b_c, 0, none⟩), .pointer (some ⟨b_k, 0, none⟩), .pointer (some ⟨b_d, 0, none⟩)]) Try.func47 rfl rfl rfl ?_
  change CW _ _ _ _ [(0, .int .i64 ((x : Nat) : Int)), (1, .int .i64 ((y : Nat) : Int)), (2, .pointer (some ⟨b_c, 0, none⟩)), (3, .pointer (some ⟨b_k, 0, none⟩)), (4, .pointer (some ⟨b_d, 0, none⟩))] _
  refine CW.seq ?_
  refine CW.region ?_
  refine RW.yl rfl rfl rfl (Yl.assign rfl rfl) ?_
  refine RW.nil ?_
  change CW _ _ _ _ _ _
  refine CW.seq ?_
  refine CW.draw 22 rfl (Kp []) (by kernel_rfl) ?_
  intro w1 H1
  have hB1 := Bl.step hB0 H1
  have hK1 := Blk.below h_c H1
  have hK2 := Blk.below h_k H1
  have hK3 := Blk.below h_d H1
  have hz1 := H1.size
  have hS1 := Kp.refl [] w1
  refine RH.take 0 rfl (by kernel_rfl) rfl rfl rfl hS1 (fun W1 hW1 => Yl.fieldAddr rfl rfl Try.underlying24 rfl sz22) ?_
  refine RH.take 1 rfl (by kernel_rfl) rfl rfl rfl hS1 (fun W2 hW2 => Yl.load rfl rfl one22 (Blk.cell (Kp.blk hW2 hK1 (by simp)) rfl)) ?_
  refine RH.take 2 rfl (by kernel_rfl) rfl rfl rfl hS1 (fun W3 hW3 => Yl.move rfl rfl) ?_
  obtain ⟨bx1, ox1, px1, cx1, hp1, hl1, hh1, hc1, hx1, hn1⟩ := (v_c.mono (kept_from hB0 hB1 (Nat.le_refl _))).at x (by omega)
  refine RH.take 3 rfl (by kernel_rfl) rfl rfl rfl hS1 (fun W4 hW4 => Yl.indexAddr1 (k := x) rfl rfl rfl Try.underlying22 sz31 hp1 rfl (by omega)) ?_
  refine RH.take 4 rfl (by kernel_rfl) rfl rfl rfl hS1 (fun W5 hW5 => Yl.load rfl rfl one31 (Kp.cell hW5 hc1 (by simp))) ?_
  refine RH.take 5 rfl (by kernel_rfl) rfl rfl rfl hS1 (fun W6 hW6 => Yl.move rfl rfl) ?_
  refine RH.take 6 rfl (by kernel_rfl) rfl rfl rfl hS1 (fun W7 hW7 => Yl.load rfl rfl one3 (Blk.cell (Kp.blk hW7 hK2 (by simp)) rfl)) ?_
  refine RH.take 7 rfl (by kernel_rfl) rfl rfl rfl hS1 (fun W8 hW8 => Yl.quoN (a := y) (b := k) rfl rfl rfl (by omega)) ?_
  obtain ⟨bx2, ox2, hp2, hl2, hh2, hc2⟩ := hx1.at (y / k) (by omega)
  refine RH.take 8 rfl (by kernel_rfl) rfl rfl rfl hS1 (fun W9 hW9 => Yl.indexAddr1 (k := y / k) rfl rfl rfl Try.underlying31 sz3 hp2 rfl (by omega)) ?_
  refine RH.take 9 rfl (by kernel_rfl) rfl rfl rfl hS1 (fun W10 hW10 => Yl.load rfl rfl one3 (Kp.cell hW10 hc2 (by simp))) ?_
  refine RH.take 10 rfl (by kernel_rfl) rfl rfl rfl hS1 (fun W11 hW11 => Yl.fieldAddr rfl rfl Try.underlying24 rfl sz22) ?_
  refine RH.take 11 rfl (by kernel_rfl) rfl rfl rfl hS1 (fun W12 hW12 => Yl.load rfl rfl one22 (Blk.cell (Kp.blk hW12 hK3 (by simp)) rfl)) ?_
  refine RH.take 12 rfl (by kernel_rfl) rfl rfl rfl hS1 (fun W13 hW13 => Yl.move rfl rfl) ?_
  obtain ⟨bx3, ox3, px2, cx2, hp3, hl3, hh3, hc3, hx2, hn2⟩ := (v_d.mono (kept_from hB0 hB1 (Nat.le_refl _))).at x (by omega)
  refine RH.take 13 rfl (by kernel_rfl) rfl rfl rfl hS1 (fun W14 hW14 => Yl.indexAddr1 (k := x) rfl rfl rfl Try.underlying22 sz31 hp3 rfl (by omega)) ?_
  refine RH.take 14 rfl (by kernel_rfl) rfl rfl rfl hS1 (fun W15 hW15 => Yl.load rfl rfl one31 (Kp.cell hW15 hc3 (by simp))) ?_
  refine RH.take 15 rfl (by kernel_rfl) rfl rfl rfl hS1 (fun W16 hW16 => Yl.move rfl rfl) ?_
  refine RH.take 16 rfl (by kernel_rfl) rfl rfl rfl hS1 (fun W17 hW17 => Yl.load rfl rfl one3 (Blk.cell (Kp.blk hW17 hK2 (by simp)) rfl)) ?_
  refine RH.take 17 rfl (by kernel_rfl) rfl rfl rfl hS1 (fun W18 hW18 => Yl.remN (a := y) (b := k) rfl rfl rfl (by omega)) ?_
  obtain ⟨bx4, ox4, hp4, hl4, hh4, hc4⟩ := hx2.at (y % k) (by omega)
  refine RH.take 18 rfl (by kernel_rfl) rfl rfl rfl hS1 (fun W19 hW19 => Yl.indexAddr1 (k := y % k) rfl rfl rfl Try.underlying31 sz3 hp4 rfl (by omega)) ?_
  refine RH.take 19 rfl (by kernel_rfl) rfl rfl rfl hS1 (fun W20 hW20 => Yl.load rfl rfl one3 (Kp.cell hW20 hc4 (by simp))) ?_
  refine RH.take 20 rfl (by kernel_rfl) rfl rfl rfl hS1 (fun W21 hW21 => Yl.mul (m := ((c[x]!)[y / k]!)) (n := ((d[x]!)[y % k]!)) rfl rfl rfl (by omega)) ?_
  refine RH.take 21 rfl (by kernel_rfl) rfl rfl rfl hS1 (fun W22 hW22 => Yl.assign rfl rfl) ?_
  refine RH.done (by kernel_rfl) ?_
  change CW _ _ _ _ _ _
  refine CW.ret ?_
  change FinQ _ _ _ _ _ _
  refine fin1 (.inr rfl) rfl rfl ?_
  exact ⟨_, rfl, rfl, hB1⟩

theorem c51 {w : World} {x y : Nat} {b_i : Nat} {i : Int} (h_i : Blk w b_i #[.int .i64 i] 3) {b_n : Nat} {n : Int} (h_n : Blk w b_n #[.int .i64 n] 3) {b_c c_c : Nat} {p_c : Option Addr} {c : List (List Int)} (h_c : Blk w b_c #[.slice p_c c.length c_c] 24) (v_c : RRows 0 w.heap.size w (.slice p_c c.length c_c) c) {b_j : Nat} {j : Int} (h_j : Blk w b_j #[.int .i64 j] 3) {b_m : Nat} {m : Int} (h_m : Blk w b_m #[.int .i64 m] 3) {b_d c_d : Nat} {p_d : Option Addr} {d : List (List Int)} (h_d : Blk w b_d #[.slice p_d d.length c_d] 24) (v_d : RRows 0 w.heap.size w (.slice p_d d.length c_d) d) {R C : Nat} {T : Int} (hc : Chan c R C T) {R2 C2 : Nat} {T2 : Int} (hd : Chan d R2 C2 T2) (hx : x < R) (hx2 : x < R2) (hy : y < C) (hy2 : y < C2) (hi : 0 ≤ i ∧ i ≤ 100) (hn : 0 ≤ n ∧ n ≤ 1048576) (hj : 0 ≤ j ∧ j ≤ 100) (hm : 0 ≤ m ∧ m ≤ 1048576) :
    Calls Try.prog 51 #[.int .i64 ((x : Nat) : Int), .int .i64 ((y : Nat) : Int), .pointer (some ⟨b_i, 0, none⟩), .pointer (some ⟨b_n, 0, none⟩), .pointer (some ⟨b_c, 0, none⟩), .pointer (some ⟨b_j, 0, none⟩), .pointer (some ⟨b_m, 0, none⟩), .pointer (some ⟨b_d, 0, none⟩)] w (Ret fun r w' => r = .int .i64 ((i * n) * ((c[x]!)[y]!) + (j * m) * ((d[x]!)[y]!)) ∧ Below w.heap.size w w') := by
  have hR := hc.rows
  have hW := hc.width x hx
  have hR2 := hd.rows
  have hW2 := hd.width x hx2
  have e1 := hc.entry x y hx hy
  have e2 := hd.entry x y hx2 hy2
  have f1 := mul_bound hi hn
  have f2 := mul_bound hj hm
  have f3 := mul_bound f1 e1
  have f4 := mul_bound f2 e2
  have hB0 : Below w.heap.size w w := Below.refl _ _
  refine Ev.calls (l := [.int .i64 ((x : Nat) : Int), .int .i64 ((y : Nat) : Int), .pointer (some ⟨b_i, 0, none⟩), .pointer (some ⟨b_n, 0, none⟩), .pointer (some ⟨b_c, 0, none⟩), .pointer (some ⟨b_j, 0, none⟩), .pointer (some ⟨b_m, 0, none⟩), .pointer (some ⟨b_d, 0, none⟩)]) Try.func51 rfl rfl rfl ?_
  change CW _ _ _ _ [(0, .int .i64 ((x : Nat) : Int)), (1, .int .i64 ((y : Nat) : Int)), (2, .pointer (some ⟨b_i, 0, none⟩)), (3, .pointer (some ⟨b_n, 0, none⟩)), (4, .pointer (some ⟨b_c, 0, none⟩)), (5, .pointer (some ⟨b_j, 0, none⟩)), (6, .pointer (some ⟨b_m, 0, none⟩)), (7, .pointer (some ⟨b_d, 0, none⟩))] _
  refine CW.seq ?_
  refine CW.region ?_
  refine RW.yl rfl rfl rfl (Yl.assign rfl rfl) ?_
  refine RW.nil ?_
  change CW _ _ _ _ _ _
  refine CW.seq ?_
  refine CW.draw 26 rfl (Kp []) (by kernel_rfl) ?_
  intro w1 H1
  have hB1 := Bl.step hB0 H1
  have hK1 := Blk.below h_i H1
  have hK2 := Blk.below h_n H1
  have hK3 := Blk.below h_c H1
  have hK4 := Blk.below h_j H1
  have hK5 := Blk.below h_m H1
  have hK6 := Blk.below h_d H1
  have hz1 := H1.size
  have hS1 := Kp.refl [] w1
  refine RH.take 0 rfl (by kernel_rfl) rfl rfl rfl hS1 (fun W1 hW1 => Yl.load rfl rfl one3 (Blk.cell (Kp.blk hW1 hK1 (by simp)) rfl)) ?_
  refine RH.take 1 rfl (by kernel_rfl) rfl rfl rfl hS1 (fun W2 hW2 => Yl.load rfl rfl one3 (Blk.cell (Kp.blk hW2 hK2 (by simp)) rfl)) ?_
  refine RH.take 2 rfl (by kernel_rfl) rfl rfl rfl hS1 (fun W3 hW3 => Yl.mul (m := i) (n := n) rfl rfl rfl (by omega)) ?_
  refine RH.take 3 rfl (by kernel_rfl) rfl rfl rfl hS1 (fun W4 hW4 => Yl.fieldAddr rfl rfl Try.underlying24 rfl sz22) ?_
  refine RH.take 4 rfl (by kernel_rfl) rfl rfl rfl hS1 (fun W5 hW5 => Yl.load rfl rfl one22 (Blk.cell (Kp.blk hW5 hK3 (by simp)) rfl)) ?_
  refine RH.take 5 rfl (by kernel_rfl) rfl rfl rfl hS1 (fun W6 hW6 => Yl.move rfl rfl) ?_
  obtain ⟨bx1, ox1, px1, cx1, hp1, hl1, hh1, hc1, hx1, hn1⟩ := (v_c.mono (kept_from hB0 hB1 (Nat.le_refl _))).at x (by omega)
  refine RH.take 6 rfl (by kernel_rfl) rfl rfl rfl hS1 (fun W7 hW7 => Yl.indexAddr1 (k := x) rfl rfl rfl Try.underlying22 sz31 hp1 rfl (by omega)) ?_
  refine RH.take 7 rfl (by kernel_rfl) rfl rfl rfl hS1 (fun W8 hW8 => Yl.load rfl rfl one31 (Kp.cell hW8 hc1 (by simp))) ?_
  refine RH.take 8 rfl (by kernel_rfl) rfl rfl rfl hS1 (fun W9 hW9 => Yl.move rfl rfl) ?_
  obtain ⟨bx2, ox2, hp2, hl2, hh2, hc2⟩ := hx1.at y (by omega)
  refine RH.take 9 rfl (by kernel_rfl) rfl rfl rfl hS1 (fun W10 hW10 => Yl.indexAddr1 (k := y) rfl rfl rfl Try.underlying31 sz3 hp2 rfl (by omega)) ?_
  refine RH.take 10 rfl (by kernel_rfl) rfl rfl rfl hS1 (fun W11 hW11 => Yl.load rfl rfl one3 (Kp.cell hW11 hc2 (by simp))) ?_
  refine RH.take 11 rfl (by kernel_rfl) rfl rfl rfl hS1 (fun W12 hW12 => Yl.mul (m := i * n) (n := ((c[x]!)[y]!)) rfl rfl rfl (by omega)) ?_
  refine RH.take 12 rfl (by kernel_rfl) rfl rfl rfl hS1 (fun W13 hW13 => Yl.load rfl rfl one3 (Blk.cell (Kp.blk hW13 hK4 (by simp)) rfl)) ?_
  refine RH.take 13 rfl (by kernel_rfl) rfl rfl rfl hS1 (fun W14 hW14 => Yl.load rfl rfl one3 (Blk.cell (Kp.blk hW14 hK5 (by simp)) rfl)) ?_
  refine RH.take 14 rfl (by kernel_rfl) rfl rfl rfl hS1 (fun W15 hW15 => Yl.mul (m := j) (n := m) rfl rfl rfl (by omega)) ?_
  refine RH.take 15 rfl (by kernel_rfl) rfl rfl rfl hS1 (fun W16 hW16 => Yl.fieldAddr rfl rfl Try.underlying24 rfl sz22) ?_
  refine RH.take 16 rfl (by kernel_rfl) rfl rfl rfl hS1 (fun W17 hW17 => Yl.load rfl rfl one22 (Blk.cell (Kp.blk hW17 hK6 (by simp)) rfl)) ?_
  refine RH.take 17 rfl (by kernel_rfl) rfl rfl rfl hS1 (fun W18 hW18 => Yl.move rfl rfl) ?_
  obtain ⟨bx3, ox3, px2, cx2, hp3, hl3, hh3, hc3, hx2, hn2⟩ := (v_d.mono (kept_from hB0 hB1 (Nat.le_refl _))).at x (by omega)
  refine RH.take 18 rfl (by kernel_rfl) rfl rfl rfl hS1 (fun W19 hW19 => Yl.indexAddr1 (k := x) rfl rfl rfl Try.underlying22 sz31 hp3 rfl (by omega)) ?_
  refine RH.take 19 rfl (by kernel_rfl) rfl rfl rfl hS1 (fun W20 hW20 => Yl.load rfl rfl one31 (Kp.cell hW20 hc3 (by simp))) ?_
  refine RH.take 20 rfl (by kernel_rfl) rfl rfl rfl hS1 (fun W21 hW21 => Yl.move rfl rfl) ?_
  obtain ⟨bx4, ox4, hp4, hl4, hh4, hc4⟩ := hx2.at y (by omega)
  refine RH.take 21 rfl (by kernel_rfl) rfl rfl rfl hS1 (fun W22 hW22 => Yl.indexAddr1 (k := y) rfl rfl rfl Try.underlying31 sz3 hp4 rfl (by omega)) ?_
  refine RH.take 22 rfl (by kernel_rfl) rfl rfl rfl hS1 (fun W23 hW23 => Yl.load rfl rfl one3 (Kp.cell hW23 hc4 (by simp))) ?_
  refine RH.take 23 rfl (by kernel_rfl) rfl rfl rfl hS1 (fun W24 hW24 => Yl.mul (m := j * m) (n := ((d[x]!)[y]!)) rfl rfl rfl (by omega)) ?_
  refine RH.take 24 rfl (by kernel_rfl) rfl rfl rfl hS1 (fun W25 hW25 => Yl.add (m := (i * n) * ((c[x]!)[y]!)) (n := (j * m) * ((d[x]!)[y]!)) rfl rfl rfl (by omega)) ?_
  refine RH.take 25 rfl (by kernel_rfl) rfl rfl rfl hS1 (fun W26 hW26 => Yl.assign rfl rfl) ?_
  refine RH.done (by kernel_rfl) ?_
  change CW _ _ _ _ _ _
  refine CW.ret ?_
  change FinQ _ _ _ _ _ _
  refine fin1 (.inr rfl) rfl rfl ?_
  exact ⟨_, rfl, rfl, hB1⟩

theorem c28 {w : World} {x y : Nat} {b_a : Nat} {a : Int} (h_a : Blk w b_a #[.int .i64 a] 3) {b_c c_c : Nat} {p_c : Option Addr} {c : List (List Int)} (h_c : Blk w b_c #[.slice p_c c.length c_c] 24) (v_c : RRows 0 w.heap.size w (.slice p_c c.length c_c) c) {b_b : Nat} {b : Int} (h_b : Blk w b_b #[.int .i64 b] 3) {b_d c_d : Nat} {p_d : Option Addr} {d : List (List Int)} (h_d : Blk w b_d #[.slice p_d d.length c_d] 24) (v_d : RRows 0 w.heap.size w (.slice p_d d.length c_d) d) {R C : Nat} {T : Int} (hc : Chan c R C T) {R2 C2 : Nat} {T2 : Int} (hd : Chan d R2 C2 T2) (hx : x < R) (hx2 : x < R2) (hy : y < C) (hy2 : y < C2) (ha : 0 ≤ a ∧ a ≤ 104857600) (hb : 0 ≤ b ∧ b ≤ 104857600) :
    Calls Try.prog 28 #[.int .i64 ((x : Nat) : Int), .int .i64 ((y : Nat) : Int), .pointer (some ⟨b_a, 0, none⟩), .pointer (some ⟨b_c, 0, none⟩), .pointer (some ⟨b_b, 0, none⟩), .pointer (some ⟨b_d, 0, none⟩)] w (Ret fun r w' => r = .int .i64 (a * ((c[x]!)[y]!) + b * ((d[x]!)[y]!)) ∧ Below w.heap.size w w') := by
  have hR := hc.rows
  have hW := hc.width x hx
  have hR2 := hd.rows
  have hW2 := hd.width x hx2
  have e1 := hc.entry x y hx hy
  have e2 := hd.entry x y hx2 hy2
  have f3 := mul_bound ha e1
  have f4 := mul_bound hb e2
  have hB0 : Below w.heap.size w w := Below.refl _ _
  refine Ev.calls (l := [.int .i64 ((x : Nat) : Int), .int .i64 ((y : Nat) : Int), .pointer (some ⟨b_a, 0, none⟩), .pointer (some ⟨b_c, 0, none⟩), .pointer (some ⟨b_b, 0, none⟩), .pointer (some ⟨b_d, 0, none⟩)]) Try.func28 rfl rfl rfl ?_
  change CW _ _ _ _ [(0, .int .i64 ((x : Nat) : Int)), (1, .int .i64 ((y : Nat) : Int)), (2, .pointer (some ⟨b_a, 0, none⟩)), (3, .pointer (some ⟨b_c, 0, none⟩)), (4, .pointer (some ⟨b_b, 0, none⟩)), (5, .pointer (some ⟨b_d, 0, none⟩))] _
  refine CW.seq ?_
  refine CW.region ?_
  refine RW.yl rfl rfl rfl (Yl.assign rfl rfl) ?_
  refine RW.nil ?_
  change CW _ _ _ _ _ _
  refine CW.seq ?_
  refine CW.draw 22 rfl (Kp []) (by kernel_rfl) ?_
  intro w1 H1
  have hB1 := Bl.step hB0 H1
  have hK1 := Blk.below h_a H1
  have hK2 := Blk.below h_c H1
  have hK3 := Blk.below h_b H1
  have hK4 := Blk.below h_d H1
  have hz1 := H1.size
  have hS1 := Kp.refl [] w1
  refine RH.take 0 rfl (by kernel_rfl) rfl rfl rfl hS1 (fun W1 hW1 => Yl.load rfl rfl one3 (Blk.cell (Kp.blk hW1 hK1 (by simp)) rfl)) ?_
  refine RH.take 1 rfl (by kernel_rfl) rfl rfl rfl hS1 (fun W2 hW2 => Yl.fieldAddr rfl rfl Try.underlying24 rfl sz22) ?_
  refine RH.take 2 rfl (by kernel_rfl) rfl rfl rfl hS1 (fun W3 hW3 => Yl.load rfl rfl one22 (Blk.cell (Kp.blk hW3 hK2 (by simp)) rfl)) ?_
  refine RH.take 3 rfl (by kernel_rfl) rfl rfl rfl hS1 (fun W4 hW4 => Yl.move rfl rfl) ?_
  obtain ⟨bx1, ox1, px1, cx1, hp1, hl1, hh1, hc1, hx1, hn1⟩ := (v_c.mono (kept_from hB0 hB1 (Nat.le_refl _))).at x (by omega)
  refine RH.take 4 rfl (by kernel_rfl) rfl rfl rfl hS1 (fun W5 hW5 => Yl.indexAddr1 (k := x) rfl rfl rfl Try.underlying22 sz31 hp1 rfl (by omega)) ?_
  refine RH.take 5 rfl (by kernel_rfl) rfl rfl rfl hS1 (fun W6 hW6 => Yl.load rfl rfl one31 (Kp.cell hW6 hc1 (by simp))) ?_
  refine RH.take 6 rfl (by kernel_rfl) rfl rfl rfl hS1 (fun W7 hW7 => Yl.move rfl rfl) ?_
  obtain ⟨bx2, ox2, hp2, hl2, hh2, hc2⟩ := hx1.at y (by omega)
  refine RH.take 7 rfl (by kernel_rfl) rfl rfl rfl hS1 (fun W8 hW8 => Yl.indexAddr1 (k := y) rfl rfl rfl Try.underlying31 sz3 hp2 rfl (by omega)) ?_
  refine RH.take 8 rfl (by kernel_rfl) rfl rfl rfl hS1 (fun W9 hW9 => Yl.load rfl rfl one3 (Kp.cell hW9 hc2 (by simp))) ?_
  refine RH.take 9 rfl (by kernel_rfl) rfl rfl rfl hS1 (fun W10 hW10 => Yl.mul (m := a) (n := ((c[x]!)[y]!)) rfl rfl rfl (by omega)) ?_
  refine RH.take 10 rfl (by kernel_rfl) rfl rfl rfl hS1 (fun W11 hW11 => Yl.load rfl rfl one3 (Blk.cell (Kp.blk hW11 hK3 (by simp)) rfl)) ?_
  refine RH.take 11 rfl (by kernel_rfl) rfl rfl rfl hS1 (fun W12 hW12 => Yl.fieldAddr rfl rfl Try.underlying24 rfl sz22) ?_
  refine RH.take 12 rfl (by kernel_rfl) rfl rfl rfl hS1 (fun W13 hW13 => Yl.load rfl rfl one22 (Blk.cell (Kp.blk hW13 hK4 (by simp)) rfl)) ?_
  refine RH.take 13 rfl (by kernel_rfl) rfl rfl rfl hS1 (fun W14 hW14 => Yl.move rfl rfl) ?_
  obtain ⟨bx3, ox3, px2, cx2, hp3, hl3, hh3, hc3, hx2, hn2⟩ := (v_d.mono (kept_from hB0 hB1 (Nat.le_refl _))).at x (by omega)
  refine RH.take 14 rfl (by kernel_rfl) rfl rfl rfl hS1 (fun W15 hW15 => Yl.indexAddr1 (k := x) rfl rfl rfl Try.underlying22 sz31 hp3 rfl (by omega)) ?_
  refine RH.take 15 rfl (by kernel_rfl) rfl rfl rfl hS1 (fun W16 hW16 => Yl.load rfl rfl one31 (Kp.cell hW16 hc3 (by simp))) ?_
  refine RH.take 16 rfl (by kernel_rfl) rfl rfl rfl hS1 (fun W17 hW17 => Yl.move rfl rfl) ?_
  obtain ⟨bx4, ox4, hp4, hl4, hh4, hc4⟩ := hx2.at y (by omega)
  refine RH.take 17 rfl (by kernel_rfl) rfl rfl rfl hS1 (fun W18 hW18 => Yl.indexAddr1 (k := y) rfl rfl rfl Try.underlying31 sz3 hp4 rfl (by omega)) ?_
  refine RH.take 18 rfl (by kernel_rfl) rfl rfl rfl hS1 (fun W19 hW19 => Yl.load rfl rfl one3 (Kp.cell hW19 hc4 (by simp))) ?_
  refine RH.take 19 rfl (by kernel_rfl) rfl rfl rfl hS1 (fun W20 hW20 => Yl.mul (m := b) (n := ((d[x]!)[y]!)) rfl rfl rfl (by omega)) ?_
  refine RH.take 20 rfl (by kernel_rfl) rfl rfl rfl hS1 (fun W21 hW21 => Yl.add (m := a * ((c[x]!)[y]!)) (n := b * ((d[x]!)[y]!)) rfl rfl rfl (by omega)) ?_
  refine RH.take 21 rfl (by kernel_rfl) rfl rfl rfl hS1 (fun W22 hW22 => Yl.assign rfl rfl) ?_
  refine RH.done (by kernel_rfl) ?_
  change CW _ _ _ _ _ _
  refine CW.ret ?_
  change FinQ _ _ _ _ _ _
  refine fin1 (.inr rfl) rfl rfl ?_
  exact ⟨_, rfl, rfl, hB1⟩

theorem c53 {w : World} {x y : Nat} :
    Calls Try.prog 53 #[.int .i64 ((x : Nat) : Int), .int .i64 ((y : Nat) : Int)] w (Ret fun r w' => r = .int .i64 0 ∧ Below w.heap.size w w') := by
  have hB0 : Below w.heap.size w w := Below.refl _ _
  refine Ev.calls (l := [.int .i64 ((x : Nat) : Int), .int .i64 ((y : Nat) : Int)]) Try.func53 rfl rfl rfl ?_
  change CW _ _ _ _ [(0, .int .i64 ((x : Nat) : Int)), (1, .int .i64 ((y : Nat) : Int))] _
  refine CW.seq ?_
  refine CW.region ?_
  refine RW.yl rfl rfl rfl (Yl.assign rfl rfl) ?_
  refine RW.nil ?_
  change CW _ _ _ _ _ _
  refine CW.seq ?_
  refine CW.region ?_
  refine RW.yl rfl rfl rfl (Yl.assign rfl rfl) ?_
  refine RW.nil ?_
  change CW _ _ _ _ _ _
  refine CW.ret ?_
  change FinQ _ _ _ _ _ _
  refine fin1 (.inr rfl) rfl rfl ?_
  exact ⟨_, rfl, rfl, hB0⟩

theorem c55 {w : World} {x y : Nat} {b_k : Nat} {k : Nat} (h_k : Blk w b_k #[.int .i64 ((k : Nat) : Int)] 3) {b_c c_c : Nat} {p_c : Option Addr} {c : List (List Int)} (h_c : Blk w b_c #[.slice p_c c.length c_c] 24) (v_c : RRows 0 w.heap.size w (.slice p_c c.length c_c) c) {b_i : Nat} {i : Int} (h_i : Blk w b_i #[.int .i64 i] 3) {b_n : Nat} {n : Int} (h_n : Blk w b_n #[.int .i64 n] 3) {b_d c_d : Nat} {p_d : Option Addr} {d : List (List Int)} (h_d : Blk w b_d #[.slice p_d d.length c_d] 24) (v_d : RRows 0 w.heap.size w (.slice p_d d.length c_d) d) {b_j : Nat} {j : Int} (h_j : Blk w b_j #[.int .i64 j] 3) {b_m : Nat} {m : Int} (h_m : Blk w b_m #[.int .i64 m] 3) {R C : Nat} {T : Int} (hc : Chan c R C T) {R2 C2 : Nat} {T2 : Int} (hd : Chan d R2 C2 T2) (hx : x < R) (hx2 : x < R2) (hk : k = C) (hy : y < C + C2) (hi : 0 ≤ i ∧ i ≤ 100) (hn : 0 ≤ n ∧ n ≤ 1048576) (hj : 0 ≤ j ∧ j ≤ 100) (hm : 0 ≤ m ∧ m ≤ 1048576) :
    Calls Try.prog 55 #[.int .i64 ((x : Nat) : Int), .int .i64 ((y : Nat) : Int), .pointer (some ⟨b_k, 0, none⟩), .pointer (some ⟨b_c, 0, none⟩), .pointer (some ⟨b_i, 0, none⟩), .pointer (some ⟨b_n, 0, none⟩), .pointer (some ⟨b_d, 0, none⟩), .pointer (some ⟨b_j, 0, none⟩), .pointer (some ⟨b_m, 0, none⟩)] w (Ret fun r w' => r = .int .i64 (if y < k then (((c[x]!)[y]!) * i) * n else (((d[x]!)[y - k]!) * j) * m) ∧ Below w.heap.size w w') := by
  have hR := hc.rows
  have hW := hc.width x hx
  have hR2 := hd.rows
  have hW2 := hd.width x hx2
  have hC2 := hc.c2
  have hD2 := hd.c2
  have e1 : y < C → _ := fun h => hc.entry x y hx h
  have e2 : y - k < C2 → _ := fun h => hd.entry x (y - k) hx2 h
  have hB0 : Below w.heap.size w w := Below.refl _ _
  refine Ev.calls (l := [.int .i64 ((x : Nat) : Int), .int .i64 ((y : Nat) : Int), .pointer (some ⟨b_k, 0, none⟩), .pointer (some ⟨b_c, 0, none⟩), .pointer (some ⟨b_i, 0, none⟩), .pointer (some ⟨b_n, 0, none⟩), .pointer (some ⟨b_d, 0, none⟩), .pointer (some ⟨b_j, 0, none⟩), .pointer (some ⟨b_m, 0, none⟩)]) Try.func55 rfl rfl rfl ?_
  change CW _ _ _ _ [(0, .int .i64 ((x : Nat) : Int)), (1, .int .i64 ((y : Nat) : Int)), (2, .pointer (some ⟨b_k, 0, none⟩)), (3, .pointer (some ⟨b_c, 0, none⟩)), (4, .pointer (some ⟨b_i, 0, none⟩)), (5, .pointer (some ⟨b_n, 0, none⟩)), (6, .pointer (some ⟨b_d, 0, none⟩)), (7, .pointer (some ⟨b_j, 0, none⟩)), (8, .pointer (some ⟨b_m, 0, none⟩))] _
  refine CW.seq ?_
  refine CW.region ?_
  refine RW.yl rfl rfl rfl (Yl.assign rfl rfl) ?_
  refine RW.nil ?_
  change CW _ _ _ _ _ _
  refine CW.seq ?_
  refine CW.seq ?_
  refine CW.region ?_
  refine RW.yl rfl rfl rfl (Yl.move rfl rfl) ?_
  refine RW.yl rfl rfl rfl (Yl.load rfl rfl one3 (Blk.cell h_k rfl)) ?_
  refine RW.yl rfl rfl rfl (Yl.lss rfl rfl rfl) ?_
  refine RW.nil ?_
  change CW _ _ _ _ _ _
  refine CW.cond rfl ?_ ?_
  ·
    intro hg1
    have hq2 := of_decide_eq_true hg1
    first
    | (exfalso; omega)
    | (
      refine CW.seq ?_
      refine CW.draw 13 rfl (Kp []) (by kernel_rfl) ?_
      intro w1 H1
      have hB1 := Bl.step hB0 H1
      have hK1 := Blk.below h_k H1
      have hK2 := Blk.below h_c H1
      have hK3 := Blk.below h_i H1
      have hK4 := Blk.below h_n H1
      have hK5 := Blk.below h_d H1
      have hK6 := Blk.below h_j H1
      have hK7 := Blk.below h_m H1
      have hz1 := H1.size
      have hS1 := Kp.refl [] w1
      refine RH.take 0 rfl (by kernel_rfl) rfl rfl rfl hS1 (fun W1 hW1 => Yl.fieldAddr rfl rfl Try.underlying24 rfl sz22) ?_
      refine RH.take 1 rfl (by kernel_rfl) rfl rfl rfl hS1 (fun W2 hW2 => Yl.load rfl rfl one22 (Blk.cell (Kp.blk hW2 hK2 (by simp)) rfl)) ?_
      refine RH.take 2 rfl (by kernel_rfl) rfl rfl rfl hS1 (fun W3 hW3 => Yl.move rfl rfl) ?_
      obtain ⟨bx1, ox1, px1, cx1, hp1, hl1, hh1, hc1, hx1, hn1⟩ := (v_c.mono (kept_from hB0 hB1 (Nat.le_refl _))).at x (by omega)
      refine RH.take 3 rfl (by kernel_rfl) rfl rfl rfl hS1 (fun W4 hW4 => Yl.indexAddr1 (k := x) rfl rfl rfl Try.underlying22 sz31 hp1 rfl (by omega)) ?_
      refine RH.take 4 rfl (by kernel_rfl) rfl rfl rfl hS1 (fun W5 hW5 => Yl.load rfl rfl one31 (Kp.cell hW5 hc1 (by simp))) ?_
      refine RH.take 5 rfl (by kernel_rfl) rfl rfl rfl hS1 (fun W6 hW6 => Yl.move rfl rfl) ?_
      obtain ⟨bx2, ox2, hp2, hl2, hh2, hc2⟩ := hx1.at y (by omega)
      refine RH.take 6 rfl (by kernel_rfl) rfl rfl rfl hS1 (fun W7 hW7 => Yl.indexAddr1 (k := y) rfl rfl rfl Try.underlying31 sz3 hp2 rfl (by omega)) ?_
      refine RH.take 7 rfl (by kernel_rfl) rfl rfl rfl hS1 (fun W8 hW8 => Yl.load rfl rfl one3 (Kp.cell hW8 hc2 (by simp))) ?_
      refine RH.take 8 rfl (by kernel_rfl) rfl rfl rfl hS1 (fun W9 hW9 => Yl.load rfl rfl one3 (Blk.cell (Kp.blk hW9 hK3 (by simp)) rfl)) ?_
      refine RH.take 9 rfl (by kernel_rfl) rfl rfl rfl hS1 (fun W10 hW10 => Yl.mul (m := ((c[x]!)[y]!)) (n := i) rfl rfl rfl (by first | omega | (have g1 := e1 (by omega); have g2 := mul_bound g1 hi; first | omega | (have g3 := mul_bound g2 hn; omega)) | (have g1 := e2 (by omega); have g2 := mul_bound g1 hj; first | omega | (have g3 := mul_bound g2 hm; omega)))) ?_
      refine RH.take 10 rfl (by kernel_rfl) rfl rfl rfl hS1 (fun W11 hW11 => Yl.load rfl rfl one3 (Blk.cell (Kp.blk hW11 hK4 (by simp)) rfl)) ?_
      refine RH.take 11 rfl (by kernel_rfl) rfl rfl rfl hS1 (fun W12 hW12 => Yl.mul (m := ((c[x]!)[y]!) * i) (n := n) rfl rfl rfl (by first | omega | (have g1 := e1 (by omega); have g2 := mul_bound g1 hi; first | omega | (have g3 := mul_bound g2 hn; omega)) | (have g1 := e2 (by omega); have g2 := mul_bound g1 hj; first | omega | (have g3 := mul_bound g2 hm; omega)))) ?_
      refine RH.take 12 rfl (by kernel_rfl) rfl rfl rfl hS1 (fun W13 hW13 => Yl.assign rfl rfl) ?_
      refine RH.done (by kernel_rfl) ?_
      change CW _ _ _ _ _ _
      refine CW.ret ?_
      change FinQ _ _ _ _ _ _
      refine fin1 (.inr rfl) rfl rfl ?_
      exact ⟨_, rfl, ival (by first | (rw [if_pos (by omega)]; done) | (rw [if_neg (by omega)]; done)), hB1⟩)
  ·
    intro hg2
    have hq4 := of_decide_eq_false hg2
    first
    | (exfalso; omega)
    | (
      refine CW.skip ?_
      change CW _ _ _ _ _ _
      refine CW.seq ?_
      refine CW.draw 15 rfl (Kp []) (by kernel_rfl) ?_
      intro w2 H2
      have hB2 := Bl.step hB0 H2
      have hK8 := Blk.below h_k H2
      have hK9 := Blk.below h_c H2
      have hK10 := Blk.below h_i H2
      have hK11 := Blk.below h_n H2
      have hK12 := Blk.below h_d H2
      have hK13 := Blk.below h_j H2
      have hK14 := Blk.below h_m H2
      have hz2 := H2.size
      have hS2 := Kp.refl [] w2
      refine RH.take 0 rfl (by kernel_rfl) rfl rfl rfl hS2 (fun W14 hW14 => Yl.fieldAddr rfl rfl Try.underlying24 rfl sz22) ?_
      refine RH.take 1 rfl (by kernel_rfl) rfl rfl rfl hS2 (fun W15 hW15 => Yl.load rfl rfl one22 (Blk.cell (Kp.blk hW15 hK12 (by simp)) rfl)) ?_
      refine RH.take 2 rfl (by kernel_rfl) rfl rfl rfl hS2 (fun W16 hW16 => Yl.move rfl rfl) ?_
      obtain ⟨bx3, ox3, px2, cx2, hp3, hl3, hh3, hc3, hx2, hn2⟩ := (v_d.mono (kept_from hB0 hB2 (Nat.le_refl _))).at x (by omega)
      refine RH.take 3 rfl (by kernel_rfl) rfl rfl rfl hS2 (fun W17 hW17 => Yl.indexAddr1 (k := x) rfl rfl rfl Try.underlying22 sz31 hp3 rfl (by omega)) ?_
      refine RH.take 4 rfl (by kernel_rfl) rfl rfl rfl hS2 (fun W18 hW18 => Yl.load rfl rfl one31 (Kp.cell hW18 hc3 (by simp))) ?_
      refine RH.take 5 rfl (by kernel_rfl) rfl rfl rfl hS2 (fun W19 hW19 => Yl.move rfl rfl) ?_
      refine RH.take 6 rfl (by kernel_rfl) rfl rfl rfl hS2 (fun W20 hW20 => Yl.load rfl rfl one3 (Blk.cell (Kp.blk hW20 hK8 (by simp)) rfl)) ?_
      refine RH.take 7 rfl (by kernel_rfl) rfl rfl rfl hS2 (fun W21 hW21 => Yl.subN (a := y) (b := k) rfl rfl rfl (by first | omega | (have g1 := e1 (by omega); have g2 := mul_bound g1 hi; first | omega | (have g3 := mul_bound g2 hn; omega)) | (have g1 := e2 (by omega); have g2 := mul_bound g1 hj; first | omega | (have g3 := mul_bound g2 hm; omega)))) ?_
      obtain ⟨bx4, ox4, hp4, hl4, hh4, hc4⟩ := hx2.at (y - k) (by omega)
      refine RH.take 8 rfl (by kernel_rfl) rfl rfl rfl hS2 (fun W22 hW22 => Yl.indexAddr1 (k := y - k) rfl rfl rfl Try.underlying31 sz3 hp4 rfl (by omega)) ?_
      refine RH.take 9 rfl (by kernel_rfl) rfl rfl rfl hS2 (fun W23 hW23 => Yl.load rfl rfl one3 (Kp.cell hW23 hc4 (by simp))) ?_
      refine RH.take 10 rfl (by kernel_rfl) rfl rfl rfl hS2 (fun W24 hW24 => Yl.load rfl rfl one3 (Blk.cell (Kp.blk hW24 hK13 (by simp)) rfl)) ?_
      refine RH.take 11 rfl (by kernel_rfl) rfl rfl rfl hS2 (fun W25 hW25 => Yl.mul (m := ((d[x]!)[y - k]!)) (n := j) rfl rfl rfl (by first | omega | (have g1 := e1 (by omega); have g2 := mul_bound g1 hi; first | omega | (have g3 := mul_bound g2 hn; omega)) | (have g1 := e2 (by omega); have g2 := mul_bound g1 hj; first | omega | (have g3 := mul_bound g2 hm; omega)))) ?_
      refine RH.take 12 rfl (by kernel_rfl) rfl rfl rfl hS2 (fun W26 hW26 => Yl.load rfl rfl one3 (Blk.cell (Kp.blk hW26 hK14 (by simp)) rfl)) ?_
      refine RH.take 13 rfl (by kernel_rfl) rfl rfl rfl hS2 (fun W27 hW27 => Yl.mul (m := ((d[x]!)[y - k]!) * j) (n := m) rfl rfl rfl (by first | omega | (have g1 := e1 (by omega); have g2 := mul_bound g1 hi; first | omega | (have g3 := mul_bound g2 hn; omega)) | (have g1 := e2 (by omega); have g2 := mul_bound g1 hj; first | omega | (have g3 := mul_bound g2 hm; omega)))) ?_
      refine RH.take 14 rfl (by kernel_rfl) rfl rfl rfl hS2 (fun W28 hW28 => Yl.assign rfl rfl) ?_
      refine RH.done (by kernel_rfl) ?_
      change CW _ _ _ _ _ _
      refine CW.ret ?_
      change FinQ _ _ _ _ _ _
      refine fin1 (.inr rfl) rfl rfl ?_
      exact ⟨_, rfl, ival (by first | (rw [if_pos (by omega)]; done) | (rw [if_neg (by omega)]; done)), hB2⟩)

theorem c34 {w : World} {x y : Nat} {b_k : Nat} {k : Nat} (h_k : Blk w b_k #[.int .i64 ((k : Nat) : Int)] 3) {b_a : Nat} {a : Int} (h_a : Blk w b_a #[.int .i64 a] 3) {b_c c_c : Nat} {p_c : Option Addr} {c : List (List Int)} (h_c : Blk w b_c #[.slice p_c c.length c_c] 24) (v_c : RRows 0 w.heap.size w (.slice p_c c.length c_c) c) {b_b : Nat} {b : Int} (h_b : Blk w b_b #[.int .i64 b] 3) {b_d c_d : Nat} {p_d : Option Addr} {d : List (List Int)} (h_d : Blk w b_d #[.slice p_d d.length c_d] 24) (v_d : RRows 0 w.heap.size w (.slice p_d d.length c_d) d) {R C : Nat} {T : Int} (hc : Chan c R C T) {R2 C2 : Nat} {T2 : Int} (hd : Chan d R2 C2 T2) (hx : x < R) (hx2 : x < R2) (hk : k = C) (hy : y < C + C2) (ha : 0 ≤ a ∧ a ≤ 104857600) (hb : 0 ≤ b ∧ b ≤ 104857600) :
    Calls Try.prog 34 #[.int .i64 ((x : Nat) : Int), .int .i64 ((y : Nat) : Int), .pointer (some ⟨b_k, 0, none⟩), .pointer (some ⟨b_a, 0, none⟩), .pointer (some ⟨b_c, 0, none⟩), .pointer (some ⟨b_b, 0, none⟩), .pointer (some ⟨b_d, 0, none⟩)] w (Ret fun r w' => r = .int .i64 (if y < k then a * ((c[x]!)[y]!) else b * ((d[x]!)[y - k]!)) ∧ Below w.heap.size w w') := by
  have hR := hc.rows
  have hW := hc.width x hx
  have hR2 := hd.rows
  have hW2 := hd.width x hx2
  have hC2 := hc.c2
  have hD2 := hd.c2
  have e1 : y < C → _ := fun h => hc.entry x y hx h
  have e2 : y - k < C2 → _ := fun h => hd.entry x (y - k) hx2 h
  have hB0 : Below w.heap.size w w := Below.refl _ _
  refine Ev.calls (l := [.int .i64 ((x : Nat) : Int), .int .i64 ((y : Nat) : Int), .pointer (some ⟨b_k, 0, none⟩), .pointer (some ⟨b_a, 0, none⟩), .pointer (some ⟨b_c, 0, none⟩), .pointer (some ⟨b_b, 0, none⟩), .pointer (some ⟨b_d, 0, none⟩)]) Try.func34 rfl rfl rfl ?_
  change CW _ _ _ _ [(0, .int .i64 ((x : Nat) : Int)), (1, .int .i64 ((y : Nat) : Int)), (2, .pointer (some ⟨b_k, 0, none⟩)), (3, .pointer (some ⟨b_a, 0, none⟩)), (4, .pointer (some ⟨b_c, 0, none⟩)), (5, .pointer (some ⟨b_b, 0, none⟩)), (6, .pointer (some ⟨b_d, 0, none⟩))] _
  refine CW.seq ?_
  refine CW.region ?_
  refine RW.yl rfl rfl rfl (Yl.assign rfl rfl) ?_
  refine RW.nil ?_
  change CW _ _ _ _ _ _
  refine CW.seq ?_
  refine CW.seq ?_
  refine CW.region ?_
  refine RW.yl rfl rfl rfl (Yl.move rfl rfl) ?_
  refine RW.yl rfl rfl rfl (Yl.load rfl rfl one3 (Blk.cell h_k rfl)) ?_
  refine RW.yl rfl rfl rfl (Yl.lss rfl rfl rfl) ?_
  refine RW.nil ?_
  change CW _ _ _ _ _ _
  refine CW.cond rfl ?_ ?_
  ·
    intro hg1
    have hq2 := of_decide_eq_true hg1
    first
    | (exfalso; omega)
    | (
      refine CW.seq ?_
      refine CW.draw 11 rfl (Kp []) (by kernel_rfl) ?_
      intro w1 H1
      have hB1 := Bl.step hB0 H1
      have hK1 := Blk.below h_k H1
      have hK2 := Blk.below h_a H1
      have hK3 := Blk.below h_c H1
      have hK4 := Blk.below h_b H1
      have hK5 := Blk.below h_d H1
      have hz1 := H1.size
      have hS1 := Kp.refl [] w1
      refine RH.take 0 rfl (by kernel_rfl) rfl rfl rfl hS1 (fun W1 hW1 => Yl.load rfl rfl one3 (Blk.cell (Kp.blk hW1 hK2 (by simp)) rfl)) ?_
      refine RH.take 1 rfl (by kernel_rfl) rfl rfl rfl hS1 (fun W2 hW2 => Yl.fieldAddr rfl rfl Try.underlying24 rfl sz22) ?_
      refine RH.take 2 rfl (by kernel_rfl) rfl rfl rfl hS1 (fun W3 hW3 => Yl.load rfl rfl one22 (Blk.cell (Kp.blk hW3 hK3 (by simp)) rfl)) ?_
      refine RH.take 3 rfl (by kernel_rfl) rfl rfl rfl hS1 (fun W4 hW4 => Yl.move rfl rfl) ?_
      obtain ⟨bx1, ox1, px1, cx1, hp1, hl1, hh1, hc1, hx1, hn1⟩ := (v_c.mono (kept_from hB0 hB1 (Nat.le_refl _))).at x (by omega)
      refine RH.take 4 rfl (by kernel_rfl) rfl rfl rfl hS1 (fun W5 hW5 => Yl.indexAddr1 (k := x) rfl rfl rfl Try.underlying22 sz31 hp1 rfl (by omega)) ?_
      refine RH.take 5 rfl (by kernel_rfl) rfl rfl rfl hS1 (fun W6 hW6 => Yl.load rfl rfl one31 (Kp.cell hW6 hc1 (by simp))) ?_
      refine RH.take 6 rfl (by kernel_rfl) rfl rfl rfl hS1 (fun W7 hW7 => Yl.move rfl rfl) ?_
      obtain ⟨bx2, ox2, hp2, hl2, hh2, hc2⟩ := hx1.at y (by omega)
      refine RH.take 7 rfl (by kernel_rfl) rfl rfl rfl hS1 (fun W8 hW8 => Yl.indexAddr1 (k := y) rfl rfl rfl Try.underlying31 sz3 hp2 rfl (by omega)) ?_
      refine RH.take 8 rfl (by kernel_rfl) rfl rfl rfl hS1 (fun W9 hW9 => Yl.load rfl rfl one3 (Kp.cell hW9 hc2 (by simp))) ?_
      refine RH.take 9 rfl (by kernel_rfl) rfl rfl rfl hS1 (fun W10 hW10 => Yl.mul (m := a) (n := ((c[x]!)[y]!)) rfl rfl rfl (by first | omega | (have g1 := e1 (by omega); have g2 := mul_bound ha g1; omega) | (have g1 := e2 (by omega); have g2 := mul_bound hb g1; omega))) ?_
      refine RH.take 10 rfl (by kernel_rfl) rfl rfl rfl hS1 (fun W11 hW11 => Yl.assign rfl rfl) ?_
      refine RH.done (by kernel_rfl) ?_
      change CW _ _ _ _ _ _
      refine CW.ret ?_
      change FinQ _ _ _ _ _ _
      refine fin1 (.inr rfl) rfl rfl ?_
      exact ⟨_, rfl, ival (by first | (rw [if_pos (by omega)]; done) | (rw [if_neg (by omega)]; done)), hB1⟩)
  ·
    intro hg2
    have hq4 := of_decide_eq_false hg2
    first
    | (exfalso; omega)
    | (
      refine CW.skip ?_
      change CW _ _ _ _ _ _
      refine CW.seq ?_
      refine CW.draw 13 rfl (Kp []) (by kernel_rfl) ?_
      intro w2 H2
      have hB2 := Bl.step hB0 H2
      have hK6 := Blk.below h_k H2
      have hK7 := Blk.below h_a H2
      have hK8 := Blk.below h_c H2
      have hK9 := Blk.below h_b H2
      have hK10 := Blk.below h_d H2
      have hz2 := H2.size
      have hS2 := Kp.refl [] w2
      refine RH.take 0 rfl (by kernel_rfl) rfl rfl rfl hS2 (fun W12 hW12 => Yl.load rfl rfl one3 (Blk.cell (Kp.blk hW12 hK9 (by simp)) rfl)) ?_
      refine RH.take 1 rfl (by kernel_rfl) rfl rfl rfl hS2 (fun W13 hW13 => Yl.fieldAddr rfl rfl Try.underlying24 rfl sz22) ?_
      refine RH.take 2 rfl (by kernel_rfl) rfl rfl rfl hS2 (fun W14 hW14 => Yl.load rfl rfl one22 (Blk.cell (Kp.blk hW14 hK10 (by simp)) rfl)) ?_
      refine RH.take 3 rfl (by kernel_rfl) rfl rfl rfl hS2 (fun W15 hW15 => Yl.move rfl rfl) ?_
      obtain ⟨bx3, ox3, px2, cx2, hp3, hl3, hh3, hc3, hx2, hn2⟩ := (v_d.mono (kept_from hB0 hB2 (Nat.le_refl _))).at x (by omega)
      refine RH.take 4 rfl (by kernel_rfl) rfl rfl rfl hS2 (fun W16 hW16 => Yl.indexAddr1 (k := x) rfl rfl rfl Try.underlying22 sz31 hp3 rfl (by omega)) ?_
      refine RH.take 5 rfl (by kernel_rfl) rfl rfl rfl hS2 (fun W17 hW17 => Yl.load rfl rfl one31 (Kp.cell hW17 hc3 (by simp))) ?_
      refine RH.take 6 rfl (by kernel_rfl) rfl rfl rfl hS2 (fun W18 hW18 => Yl.move rfl rfl) ?_
      refine RH.take 7 rfl (by kernel_rfl) rfl rfl rfl hS2 (fun W19 hW19 => Yl.load rfl rfl one3 (Blk.cell (Kp.blk hW19 hK6 (by simp)) rfl)) ?_
      refine RH.take 8 rfl (by kernel_rfl) rfl rfl rfl hS2 (fun W20 hW20 => Yl.subN (a := y) (b := k) rfl rfl rfl (by first | omega | (have g1 := e1 (by omega); have g2 := mul_bound ha g1; omega) | (have g1 := e2 (by omega); have g2 := mul_bound hb g1; omega))) ?_
      obtain ⟨bx4, ox4, hp4, hl4, hh4, hc4⟩ := hx2.at (y - k) (by omega)
      refine RH.take 9 rfl (by kernel_rfl) rfl rfl rfl hS2 (fun W21 hW21 => Yl.indexAddr1 (k := y - k) rfl rfl rfl Try.underlying31 sz3 hp4 rfl (by omega)) ?_
      refine RH.take 10 rfl (by kernel_rfl) rfl rfl rfl hS2 (fun W22 hW22 => Yl.load rfl rfl one3 (Kp.cell hW22 hc4 (by simp))) ?_
      refine RH.take 11 rfl (by kernel_rfl) rfl rfl rfl hS2 (fun W23 hW23 => Yl.mul (m := b) (n := ((d[x]!)[y - k]!)) rfl rfl rfl (by first | omega | (have g1 := e1 (by omega); have g2 := mul_bound ha g1; omega) | (have g1 := e2 (by omega); have g2 := mul_bound hb g1; omega))) ?_
      refine RH.take 12 rfl (by kernel_rfl) rfl rfl rfl hS2 (fun W24 hW24 => Yl.assign rfl rfl) ?_
      refine RH.done (by kernel_rfl) ?_
      change CW _ _ _ _ _ _
      refine CW.ret ?_
      change FinQ _ _ _ _ _ _
      refine fin1 (.inr rfl) rfl rfl ?_
      exact ⟨_, rfl, ival (by first | (rw [if_pos (by omega)]; done) | (rw [if_neg (by omega)]; done)), hB2⟩)

theorem c31 {w : World} {n : Int} {b_t c_t : Nat} {p_t : Option Addr} {t : List Int} (h_t : Blk w b_t #[.slice p_t t.length c_t] 31) (v_t : RInts 0 w.heap.size w (.slice p_t t.length c_t) t) :
    Calls Try.prog 31 #[.int .i64 n, .pointer (some ⟨b_t, 0, none⟩)] w (Ret fun r w' => r = .bool (decide (n < 0 ∨ (t.length : Int) ≤ n)) ∧ Below w.heap.size w w') := by
  have _ := v_t.form
  have hB0 : Below w.heap.size w w := Below.refl _ _
  refine Ev.calls (l := [.int .i64 n, .pointer (some ⟨b_t, 0, none⟩)]) Try.func31 rfl rfl rfl ?_
  change CW _ _ _ _ [(0, .int .i64 n), (1, .pointer (some ⟨b_t, 0, none⟩))] _
  refine CW.seq ?_
  refine CW.region ?_
  refine RW.yl rfl rfl rfl (Yl.assign rfl rfl) ?_
  refine RW.nil ?_
  change CW _ _ _ _ _ _
  refine CW.seq ?_
  rcases Bool.eq_false_or_eq_true (decide (n < 0)) with hg1 | hg1
  ·
    have hq1 := of_decide_eq_true hg1
    first
    | (exfalso; omega)
    | (
      refine CW.region ?_
      refine RW.yl rfl rfl rfl (Yl.move rfl rfl) ?_
      refine RW.yl rfl rfl rfl (Yl.eqb (Yl.lss rfl rfl rfl) hg1) ?_
      refine RW.yl rfl rfl rfl (Yl.move rfl rfl) ?_
      refine RW.skip rfl rfl rfl ?_
      refine RW.skip rfl rfl rfl ?_
      refine RW.skip rfl rfl rfl ?_
      refine RW.skip rfl rfl rfl ?_
      refine RW.yl rfl rfl rfl (Yl.pickT rfl rfl rfl) ?_
      refine RW.yl rfl rfl rfl (Yl.assign rfl rfl) ?_
      refine RW.nil ?_
      change CW _ _ _ _ _ _
      refine CW.ret ?_
      change FinQ _ _ _ _ _ _
      refine fin1 (.inr rfl) rfl rfl ?_
      exact ⟨_, rfl, bval (by first | exact (decide_eq_true (by omega)).symm | exact decide_eq_decide.2 (by omega)), hB0⟩)
  ·
    have hq1 := of_decide_eq_false hg1
    first
    | (exfalso; omega)
    | (
      refine CW.region ?_
      refine RW.yl rfl rfl rfl (Yl.move rfl rfl) ?_
      refine RW.yl rfl rfl rfl (Yl.eqb (Yl.lss rfl rfl rfl) hg1) ?_
      refine RW.yl rfl rfl rfl (Yl.move rfl rfl) ?_
      refine RW.yl rfl rfl rfl (Yl.move rfl rfl) ?_
      refine RW.yl rfl rfl rfl (Yl.load rfl rfl one31 (Blk.cell h_t rfl)) ?_
      refine RW.yl rfl rfl rfl (Yl.len rfl rfl Try.underlying31) ?_
      refine RW.yl rfl rfl rfl (Yl.geq rfl rfl rfl) ?_
      refine RW.yl rfl rfl rfl (Yl.pickF rfl rfl rfl) ?_
      refine RW.yl rfl rfl rfl (Yl.assign rfl rfl) ?_
      refine RW.nil ?_
      change CW _ _ _ _ _ _
      refine CW.ret ?_
      change FinQ _ _ _ _ _ _
      refine fin1 (.inr rfl) rfl rfl ?_
      exact ⟨_, rfl, bval (by first | exact (decide_eq_true (by omega)).symm | exact decide_eq_decide.2 (by omega)), hB0⟩)

theorem c52 {w : World} {n : Int} {b_k : Nat} {k : Int} (h_k : Blk w b_k #[.int .i64 k] 3) :
    Calls Try.prog 52 #[.int .i64 n, .pointer (some ⟨b_k, 0, none⟩)] w (Ret fun r w' => r = .bool (decide (n < 0 ∨ k ≤ n)) ∧ Below w.heap.size w w') := by
  have hB0 : Below w.heap.size w w := Below.refl _ _
  refine Ev.calls (l := [.int .i64 n, .pointer (some ⟨b_k, 0, none⟩)]) Try.func52 rfl rfl rfl ?_
  change CW _ _ _ _ [(0, .int .i64 n), (1, .pointer (some ⟨b_k, 0, none⟩))] _
  refine CW.seq ?_
  refine CW.region ?_
  refine RW.yl rfl rfl rfl (Yl.assign rfl rfl) ?_
  refine RW.nil ?_
  change CW _ _ _ _ _ _
  refine CW.seq ?_
  rcases Bool.eq_false_or_eq_true (decide (n < 0)) with hg1 | hg1
  ·
    have hq1 := of_decide_eq_true hg1
    first
    | (exfalso; omega)
    | (
      refine CW.region ?_
      refine RW.yl rfl rfl rfl (Yl.move rfl rfl) ?_
      refine RW.yl rfl rfl rfl (Yl.eqb (Yl.lss rfl rfl rfl) hg1) ?_
      refine RW.yl rfl rfl rfl (Yl.move rfl rfl) ?_
      refine RW.skip rfl rfl rfl ?_
      refine RW.skip rfl rfl rfl ?_
      refine RW.skip rfl rfl rfl ?_
      refine RW.yl rfl rfl rfl (Yl.pickT rfl rfl rfl) ?_
      refine RW.yl rfl rfl rfl (Yl.assign rfl rfl) ?_
      refine RW.nil ?_
      change CW _ _ _ _ _ _
      refine CW.ret ?_
      change FinQ _ _ _ _ _ _
      refine fin1 (.inr rfl) rfl rfl ?_
      exact ⟨_, rfl, bval (by first | exact (decide_eq_true (by omega)).symm | exact decide_eq_decide.2 (by omega)), hB0⟩)
  ·
    have hq1 := of_decide_eq_false hg1
    first
    | (exfalso; omega)
    | (
      refine CW.region ?_
      refine RW.yl rfl rfl rfl (Yl.move rfl rfl) ?_
      refine RW.yl rfl rfl rfl (Yl.eqb (Yl.lss rfl rfl rfl) hg1) ?_
      refine RW.yl rfl rfl rfl (Yl.move rfl rfl) ?_
      refine RW.yl rfl rfl rfl (Yl.move rfl rfl) ?_
      refine RW.yl rfl rfl rfl (Yl.load rfl rfl one3 (Blk.cell h_k rfl)) ?_
      refine RW.yl rfl rfl rfl (Yl.geq rfl rfl rfl) ?_
      refine RW.yl rfl rfl rfl (Yl.pickF rfl rfl rfl) ?_
      refine RW.yl rfl rfl rfl (Yl.assign rfl rfl) ?_
      refine RW.nil ?_
      change CW _ _ _ _ _ _
      refine CW.ret ?_
      change FinQ _ _ _ _ _ _
      refine fin1 (.inr rfl) rfl rfl ?_
      exact ⟨_, rfl, bval (by first | exact (decide_eq_true (by omega)).symm | exact decide_eq_decide.2 (by omega)), hB0⟩)

theorem c32 {w : World} {x y : Nat} {b_t c_t : Nat} {p_t : Option Addr} {t : List Int} (h_t : Blk w b_t #[.slice p_t t.length c_t] 31) (v_t : RInts 0 w.heap.size w (.slice p_t t.length c_t) t) (hx : x < t.length) :
    Calls Try.prog 32 #[.int .i64 ((x : Nat) : Int), .int .i64 ((y : Nat) : Int), .pointer (some ⟨b_t, 0, none⟩)] w (Ret fun r w' => r = .int .i64 (if t[x]! = ((y : Nat) : Int) then 1 else 0) ∧ Below w.heap.size w w') := by
  have hB0 : Below w.heap.size w w := Below.refl _ _
  refine Ev.calls (l := [.int .i64 ((x : Nat) : Int), .int .i64 ((y : Nat) : Int), .pointer (some ⟨b_t, 0, none⟩)]) Try.func32 rfl rfl rfl ?_
  change CW _ _ _ _ [(0, .int .i64 ((x : Nat) : Int)), (1, .int .i64 ((y : Nat) : Int)), (2, .pointer (some ⟨b_t, 0, none⟩))] _
  refine CW.seq ?_
  refine CW.region ?_
  refine RW.yl rfl rfl rfl (Yl.assign rfl rfl) ?_
  refine RW.nil ?_
  change CW _ _ _ _ _ _
  refine CW.seq ?_
  refine CW.seq ?_
  refine CW.region ?_
  refine RW.yl rfl rfl rfl (Yl.load rfl rfl one31 (Blk.cell h_t rfl)) ?_
  refine RW.yl rfl rfl rfl (Yl.move rfl rfl) ?_
  obtain ⟨bx1, ox1, hp1, hl1, hh1, hc1⟩ := v_t.at x (by omega)
  refine RW.yl rfl rfl rfl (Yl.indexAddr1 (k := x) rfl rfl rfl Try.underlying31 sz3 hp1 rfl (by omega)) ?_
  refine RW.yl rfl rfl rfl (Yl.load rfl rfl one3 hc1) ?_
  refine RW.yl rfl rfl rfl (Yl.move rfl rfl) ?_
  refine RW.yl rfl rfl rfl (Yl.eql rfl rfl rfl) ?_
  refine RW.nil ?_
  change CW _ _ _ _ _ _
  refine CW.cond rfl ?_ ?_
  ·
    intro hg1
    have hq2 := of_decide_eq_true hg1
    first
    | (exfalso; omega)
    | (
      refine CW.seq ?_
      refine CW.region ?_
      refine RW.yl rfl rfl rfl (Yl.assign rfl rfl) ?_
      refine RW.nil ?_
      change CW _ _ _ _ _ _
      refine CW.ret ?_
      change FinQ _ _ _ _ _ _
      refine fin1 (.inr rfl) rfl rfl ?_
      exact ⟨_, rfl, ival (by first | (rw [if_pos (by omega)]; done) | (rw [if_neg (by omega)]; done)), hB0⟩)
  ·
    intro hg2
    have hq4 := of_decide_eq_false hg2
    first
    | (exfalso; omega)
    | (
      refine CW.skip ?_
      change CW _ _ _ _ _ _
      refine CW.seq ?_
      refine CW.region ?_
      refine RW.yl rfl rfl rfl (Yl.assign rfl rfl) ?_
      refine RW.nil ?_
      change CW _ _ _ _ _ _
      refine CW.ret ?_
      change FinQ _ _ _ _ _ _
      refine fin1 (.inr rfl) rfl rfl ?_
      exact ⟨_, rfl, ival (by first | (rw [if_pos (by omega)]; done) | (rw [if_neg (by omega)]; done)), hB0⟩)

theorem c36 {w : World} {v : Value} {l : List Int} (hv : RInts 0 w.heap.size w v l) {b_t c_t : Nat} {p_t : Option Addr} {t : List Int} (h_t : Blk w b_t #[.slice p_t t.length c_t] 31) (v_t : RInts 0 w.heap.size w (.slice p_t t.length c_t) t) :
    Calls Try.prog 36 #[v, .pointer (some ⟨b_t, 0, none⟩)] w (Ret fun r w' => r = .bool (decide (l = t)) ∧ Below w.heap.size w w') := by
  obtain ⟨p, c, rfl, hl⟩ := hv.form
  have hB0 : Below w.heap.size w w := Below.refl _ _
  refine Ev.calls (l := [.slice p l.length c, .pointer (some ⟨b_t, 0, none⟩)]) Try.func36 rfl rfl rfl ?_
  change CW _ _ _ _ [(0, .slice p l.length c), (1, .pointer (some ⟨b_t, 0, none⟩))] _
  refine CW.seq ?_
  refine CW.region ?_
  refine RW.yl rfl rfl rfl (Yl.assign rfl rfl) ?_
  refine RW.nil ?_
  change CW _ _ _ _ _ _
  refine CW.seq ?_
  refine CW.region ?_
  refine RW.yl rfl rfl rfl (Yl.move rfl rfl) ?_
  refine RW.yl rfl rfl rfl (Yl.load rfl rfl one31 (Blk.cell h_t rfl)) ?_
  refine RW.fn rfl rfl rfl (Yc.func #[.slice p l.length c, .slice p_t t.length c_t] rfl ok37 (args2 rfl rfl)) (c37 (hv.wide (Nat.zero_le _) (by omega)) (v_t.wide (Nat.zero_le _) (by omega))) ?_
  rintro _ w1 ⟨rfl, H1⟩
  have hB1 := Bl.step hB0 H1
  have hK1 := Blk.below h_t H1
  have hz1 := H1.size
  refine RW.yl rfl rfl rfl (Yl.assign rfl rfl) ?_
  refine RW.nil ?_
  change CW _ _ _ _ _ _
  refine CW.ret ?_
  change FinQ _ _ _ _ _ _
  refine fin1 (.inr rfl) rfl rfl ?_
  exact ⟨_, rfl, rfl, hB1⟩

end Go.Proofs.Ytodeffidnipelaa
