/- The matrices that are filled. -/
import Derived.Test.YtodeffidnipelaaT5
namespace Go.Proofs.Ytodeffidnipelaa
open Go.RowKit Go.Ev

theorem c43_44 {w : World} {R C : Nat} {q0 : Value} {q1 : Value} {f : Nat → Nat → Int} (HC : ∀ {W : World} {x y : Nat}, x < R → y < C → Below w.heap.size w W → Calls Try.prog 44 #[.int .i64 ((x : Nat) : Int), .int .i64 ((y : Nat) : Int), q0, q1] W (Ret fun r w' => r = .int .i64 (f x y) ∧ Below W.heap.size W w')) (hR : R ≤ 1048576) (hC : C ≤ 1048576) :
    Calls Try.prog 43 #[.int .i64 ((R : Nat) : Int), .int .i64 ((C : Nat) : Int), .func (.func 44) #[] #[q0, q1]] w (Ret fun r w' => ∃ s, r = .agg #[s] ∧ RRows w.heap.size w'.heap.size w' s (tab R C f) ∧ Below w.heap.size w w') := by
  have hB0 : Below w.heap.size w w := Below.refl _ _
  refine Ev.calls (l := [.int .i64 ((R : Nat) : Int), .int .i64 ((C : Nat) : Int), .func (.func 44) #[] #[q0, q1]]) Try.func43 rfl rfl rfl ?_
  change CW _ _ _ _ [(0, .int .i64 ((R : Nat) : Int)), (1, .int .i64 ((C : Nat) : Int)), (2, .func (.func 44) #[] #[q0, q1])] _
  refine CW.seq ?_
  refine CW.region ?_
  refine RW.newP (cs := #[.slice none 0 0]) (T := 24) rfl rfl rfl (Yv.alloc (z := .agg #[.slice none 0 0]) rfl zero24) ?_
  intro b1 w1 N1
  have lo_b1 : w.heap.size ≤ b1 := by have := hB0.size; have := N1.num; omega
  have hn_b1 := N1.num
  have hs_b1 := N1.size
  have hB1 := Bl.step hB0 N1.below
  refine RW.nil ?_
  change CW _ _ _ _ _ _
  refine CW.seq ?_
  refine CW.region ?_
  refine RW.newP (cs := #[.slice none 0 0]) (T := 24) rfl rfl rfl (Yv.alloc (z := .agg #[.slice none 0 0]) rfl zero24) ?_
  intro b2 w2 N2
  have ne1 := New.ne N2 N1.blk
  have lo_b2 : w.heap.size ≤ b2 := by have := hB1.size; have := N2.num; omega
  have hn_b2 := N2.num
  have hs_b2 := N2.size
  have hB2 := Bl.step hB1 N2.below
  have hK1 := Blk.below N1.blk N2.below
  refine RW.nil ?_
  change CW _ _ _ _ _ _
  refine CW.seq ?_
  refine CW.seq ?_
  refine CW.region ?_
  refine RW.yl rfl rfl rfl (Yl.move rfl rfl) ?_
  refine RW.yl rfl rfl rfl (Yl.move rfl rfl) ?_
  refine RW.nil ?_
  change CW _ _ _ _ _ _
  refine CW.block ?_
  have hO1 := Own.nil w2 w.heap.size 31
  have hC1 : OAll 3 w.heap.size w2.heap.size w2 [] (tab 0 C f) := OAll.nil
  refine CW.loop3 (fun (k : Nat) (v : Value) (xs : List Value) => [(1, .int .i64 ((C : Nat) : Int)), (2, .func (.func 44) #[] #[q0, q1]), (6, .pointer (some ⟨b1, 0, none⟩)), (7, .pointer (some ⟨b2, 0, none⟩)), (11, .int .i64 ((R : Nat) : Int)), (12, .int .i64 ((k : Nat) : Int))]) (fun k v xs gm W => (gm = R - k) ∧ (k ≤ R) ∧ (xs.length = k) ∧ (Below w.heap.size w W) ∧ (Blk W b1 #[.slice none 0 0] 24) ∧ (Blk W b2 #[v] 24) ∧ (Own W w.heap.size 31 v xs) ∧ (OAll 3 w.heap.size W.heap.size W xs (tab k C f)) ∧ (w2.heap.size ≤ W.heap.size)) 0 (.slice none 0 0) ([]) (R - 0) ⟨rfl, (by first | assumption | omega | rfl | (simp only [List.length_append, List.length_cons, List.length_nil]; omega)), (by first | assumption | omega | rfl | (simp only [List.length_append, List.length_cons, List.length_nil]; omega)), hB2, hK1, N2.blk, hO1, (hC1.wide (by omega)), (by omega)⟩ (Sub.cons rfl (Sub.cons rfl (Sub.cons rfl (Sub.cons rfl (Sub.cons rfl (Sub.cons rfl (Sub.nil))))))) ?_
  intro k v xs gm1 w3 hinv
  obtain ⟨hm1, hi1, hi2, hB3, hK2, hK3, hO2, hC2, hz1⟩ := hinv
  change CW _ _ _ _ [(1, .int .i64 ((C : Nat) : Int)), (2, .func (.func 44) #[] #[q0, q1]), (6, .pointer (some ⟨b1, 0, none⟩)), (7, .pointer (some ⟨b2, 0, none⟩)), (11, .int .i64 ((R : Nat) : Int)), (12, .int .i64 ((k : Nat) : Int))] _
  obtain ⟨pv, nv, cv, rfl⟩ := hO2.form
  refine CW.seq ?_
  refine CW.region ?_
  refine RW.yl rfl rfl rfl (Yl.lss rfl rfl rfl) ?_
  refine RW.nil ?_
  change CW _ _ _ _ _ _
  refine CW.seq ?_
  refine CW.cond rfl ?_ ?_
  ·
    intro hg1
    have hq2 := of_decide_eq_true hg1
    first
    | (exfalso; omega)
    | (
      refine CW.skip ?_
      change CW _ _ _ _ _ _
      refine CW.seq ?_
      refine CW.block ?_
      refine CW.seq ?_
      refine CW.region ?_
      refine RW.yl rfl rfl rfl (Yl.move rfl rfl) ?_
      refine RW.yl rfl rfl rfl (Yl.assign rfl rfl) ?_
      refine RW.nil ?_
      change CW _ _ _ _ _ _
      refine CW.seq ?_
      refine CW.region ?_
      refine RW.yl rfl rfl rfl (Yl.move rfl rfl) ?_
      refine RW.newS (cs := Array.replicate C (.int .i64 0)) (T := 3) (l := C) (c := C) rfl rfl rfl (Yv.make (k := C) rfl rfl rfl rfl Try.underlying31 mk3 rfl (by omega)) ?_
      intro b3 w4 N3
      have ne2 := New.ne N3 hK2
      have ne3 := New.ne N3 hK3
      have lo_b3 : w.heap.size ≤ b3 := by have := hB3.size; have := N3.num; omega
      have hn_b3 := N3.num
      have hs_b3 := N3.size
      have hB4 := Bl.step hB3 N3.below
      have hK4 := Blk.below hK2 N3.below
      have hK5 := Blk.below hK3 N3.below
      have hO3 := Own.below hO2 N3.below
      have hC3 := hC2.below N3.below
      refine RW.yl rfl rfl rfl (Yl.assign rfl rfl) ?_
      refine RW.nil ?_
      change CW _ _ _ _ _ _
      refine CW.seq ?_
      refine CW.seq ?_
      refine CW.region ?_
      refine RW.yl rfl rfl rfl (Yl.move rfl rfl) ?_
      refine RW.yl rfl rfl rfl (Yl.len rfl rfl Try.underlying31) ?_
      refine RW.yl rfl rfl rfl (Yl.move rfl rfl) ?_
      refine RW.nil ?_
      change CW _ _ _ _ _ _
      refine CW.block ?_
      refine CW.loop2 (fun (j : Nat) (cur : Array Value) => [(1, .int .i64 ((C : Nat) : Int)), (2, .func (.func 44) #[] #[q0, q1]), (6, .pointer (some ⟨b1, 0, none⟩)), (7, .pointer (some ⟨b2, 0, none⟩)), (8, .int .i64 ((k : Nat) : Int)), (9, .slice (some ⟨b3, 0, none⟩) C C), (11, .int .i64 ((R : Nat) : Int)), (12, .int .i64 ((k : Nat) : Int)), (13, .bool (decide (((k : Nat) : Int) < ((R : Nat) : Int)))), (14, .int .i64 ((k : Nat) : Int)), (15, .int .i64 ((C : Nat) : Int)), (16, .slice (some ⟨b3, 0, none⟩) C C), (17, .slice (some ⟨b3, 0, none⟩) C C), (18, .int .i64 ((C : Nat) : Int)), (19, .int .i64 ((j : Nat) : Int))]) (fun j cur gm W => (gm = C - j) ∧ (j ≤ C) ∧ (cur.size = C) ∧ (∀ i, i < j → cur[i]? = some (.int .i64 (f k i))) ∧ (Below w.heap.size w W) ∧ (Blk W b1 #[.slice none 0 0] 24) ∧ (Blk W b2 #[.slice pv nv cv] 24) ∧ (Blk W b3 cur 3) ∧ (Own W w.heap.size 31 (.slice pv nv cv) xs) ∧ (OAll 3 w.heap.size w3.heap.size W xs (tab k C f)) ∧ (w4.heap.size ≤ W.heap.size)) 0 (Array.replicate C (.int .i64 0)) (C - 0) ⟨rfl, (by first | assumption | omega | rfl | (first | exact Array.size_replicate | (intro i hi; omega) | exact size_set (by assumption) | exact fill_next (g := fun i => .int .i64 (f k i)) (by assumption) (by omega))), (by first | assumption | omega | rfl | (first | exact Array.size_replicate | (intro i hi; omega) | exact size_set (by assumption) | exact fill_next (g := fun i => .int .i64 (f k i)) (by assumption) (by omega))), (by first | assumption | omega | rfl | (first | exact Array.size_replicate | (intro i hi; omega) | exact size_set (by assumption) | exact fill_next (g := fun i => .int .i64 (f k i)) (by assumption) (by omega))), hB4, hK4, hK5, N3.blk, hO3, hC3, (by omega)⟩ (Sub.cons rfl (Sub.cons rfl (Sub.cons rfl (Sub.cons rfl (Sub.cons rfl (Sub.cons rfl (Sub.cons rfl (Sub.cons rfl (Sub.cons rfl (Sub.cons rfl (Sub.cons rfl (Sub.cons rfl (Sub.cons rfl (Sub.cons rfl (Sub.cons rfl (Sub.nil)))))))))))))))) ?_
      intro j cur gm2 w5 hinv
      obtain ⟨hm2, hi3, hi4, hi5, hB5, hK6, hK7, hK8, hO4, hC4, hz2⟩ := hinv
      change CW _ _ _ _ [(1, .int .i64 ((C : Nat) : Int)), (2, .func (.func 44) #[] #[q0, q1]), (6, .pointer (some ⟨b1, 0, none⟩)), (7, .pointer (some ⟨b2, 0, none⟩)), (8, .int .i64 ((k : Nat) : Int)), (9, .slice (some ⟨b3, 0, none⟩) C C), (11, .int .i64 ((R : Nat) : Int)), (12, .int .i64 ((k : Nat) : Int)), (13, .bool (decide (((k : Nat) : Int) < ((R : Nat) : Int)))), (14, .int .i64 ((k : Nat) : Int)), (15, .int .i64 ((C : Nat) : Int)), (16, .slice (some ⟨b3, 0, none⟩) C C), (17, .slice (some ⟨b3, 0, none⟩) C C), (18, .int .i64 ((C : Nat) : Int)), (19, .int .i64 ((j : Nat) : Int))] _
      have hrowf := hi5
      refine CW.seq ?_
      refine CW.region ?_
      refine RW.yl rfl rfl rfl (Yl.lss rfl rfl rfl) ?_
      refine RW.nil ?_
      change CW _ _ _ _ _ _
      refine CW.seq ?_
      refine CW.cond rfl ?_ ?_
      ·
        intro hg2
        have hq4 := of_decide_eq_true hg2
        first
        | (exfalso; omega)
        | (
          refine CW.skip ?_
          change CW _ _ _ _ _ _
          refine CW.seq ?_
          refine CW.block ?_
          refine CW.seq ?_
          refine CW.region ?_
          refine RW.yl rfl rfl rfl (Yl.move rfl rfl) ?_
          refine RW.yl rfl rfl rfl (Yl.assign rfl rfl) ?_
          refine RW.nil ?_
          change CW _ _ _ _ _ _
          refine CW.region ?_
          refine RW.yl rfl rfl rfl (Yl.move rfl rfl) ?_
          refine RW.yl rfl rfl rfl (Yl.move rfl rfl) ?_
          refine RW.yl rfl rfl rfl (Yl.move rfl rfl) ?_
          refine RW.yl rfl rfl rfl (Yl.move rfl rfl) ?_
          refine RW.yl rfl rfl rfl (Yl.move rfl rfl) ?_
          refine RW.fn rfl rfl rfl (Yc.closure #[.int .i64 ((k : Nat) : Int), .int .i64 ((j : Nat) : Int), q0, q1] rfl rfl ok44 (capt (args2 rfl rfl) rfl)) (HC (x := k) (y := j) (by omega) (by omega) hB5) ?_
          rintro _ w6 ⟨rfl, H1⟩
          have hB6 := Bl.step hB5 H1
          have hK9 := Blk.below hK6 H1
          have hK10 := Blk.below hK7 H1
          have hK11 := Blk.below hK8 H1
          have hO5 := Own.below hO4 H1
          have hC5 := hC4.below H1
          have hz3 := H1.size
          refine RW.yl rfl rfl rfl (Yl.indexAddr1 (k := j) rfl rfl rfl Try.underlying31 sz3 rfl rfl (by omega)) ?_
          refine RW.sto (v := .int .i64 (f k j)) (i := 0 + j) rfl rfl hK11 (Yu.store rfl rfl rfl rfl rfl sz3 hK11 (by omega)) ?_
          intro w7 H2
          have hB7 := Bl.sto hB6 H2 lo_b3
          have hK12 := Blk.sto hK9 H2 ne2
          have hK13 := Blk.sto hK10 H2 ne3
          have hK14 := H2.blk
          have hO6 := Own.sto hO5 H2 hK11 (by decide)
          have hC6 := hC5.sto H2 (by omega)
          have hz4 := H2.size
          refine RW.nil ?_
          change CW _ _ _ _ _ _
          refine CW.region ?_
          refine RW.yl rfl rfl rfl (Yl.addN (a := j) (b := 1) rfl rfl rfl (by omega)) ?_
          refine RW.yl rfl rfl rfl (Yl.move rfl rfl) ?_
          refine RW.nil ?_
          refine ⟨(j + 1, (cur).setIfInBounds (0 + j) (.int .i64 (f k j))), C - (j + 1), by omega, ⟨rfl, (by first | assumption | omega | rfl | (first | exact Array.size_replicate | (intro i hi; omega) | exact size_set (by assumption) | exact fill_next (g := fun i => .int .i64 (f k i)) (by assumption) (by omega))), (by first | assumption | omega | rfl | (first | exact Array.size_replicate | (intro i hi; omega) | exact size_set (by assumption) | exact fill_next (g := fun i => .int .i64 (f k i)) (by assumption) (by omega))), (by first | assumption | omega | rfl | (first | exact Array.size_replicate | (intro i hi; omega) | exact size_set (by assumption) | exact fill_next (g := fun i => .int .i64 (f k i)) (by assumption) (by omega))), hB7, hK12, hK13, hK14, hO6, hC6, (by omega)⟩, Sub.cons rfl (Sub.cons rfl (Sub.cons rfl (Sub.cons rfl (Sub.cons rfl (Sub.cons rfl (Sub.cons rfl (Sub.cons rfl (Sub.cons rfl (Sub.cons rfl (Sub.cons rfl (Sub.cons rfl (Sub.cons rfl (Sub.cons rfl (Sub.cons rfl (Sub.nil)))))))))))))))⟩)
      ·
        intro hg3
        have hq6 := of_decide_eq_false hg3
        first
        | (exfalso; omega)
        | (
          refine CW.exit ?_
          change CW _ _ _ _ _ _
          refine CW.region ?_
          refine RW.yl rfl rfl rfl (Yl.fieldAddr rfl rfl Try.underlying24 rfl sz22) ?_
          refine RW.yl rfl rfl rfl (Yl.load rfl rfl one22 (Blk.cell hK7 rfl)) ?_
          refine RW.yl rfl rfl rfl (Yl.move rfl rfl) ?_
          refine RW.newS (cs := #[.slice (some ⟨b3, 0, none⟩) C C]) (T := 31) (l := 1) (c := 1) rfl rfl rfl (Yv.lit1 rfl rfl rfl Try.underlying22 mkx31) ?_
          intro b4 w8 N4
          have ne4 := New.ne N4 hK6
          have ne5 := New.ne N4 hK7
          have ne6 := New.ne N4 hK8
          have lo_b4 : w.heap.size ≤ b4 := by have := hB5.size; have := N4.num; omega
          have hn_b4 := N4.num
          have hs_b4 := N4.size
          have hB8 := Bl.step hB5 N4.below
          have hK15 := Blk.below hK6 N4.below
          have hK16 := Blk.below hK7 N4.below
          have hK17 := Blk.below hK8 N4.below
          have hO7 := Own.below hO4 N4.below
          have hC7 := hC4.below N4.below
          refine RW.app rfl rfl rfl (Yv.append (u := .slice (some ⟨b3, 0, none⟩) C C) rfl rfl rfl Try.underlying22 mkx31 hO7 N4.blk rfl (by first | omega | (simp only [List.length_map, List.length_range]; omega)) (by omega)) ?_
          intro v1 w9 A1
          have hB9 := Bl.app hB8 A1 hO7 (Nat.le_refl _)
          have hK18 := Blk.app hK15 A1 hO7 (by decide)
          have hK19 := Blk.app hK16 A1 hO7 (by decide)
          have hK20 := Blk.app hK17 A1 hO7 (by decide)
          have hC8 := hC7.app A1 hO7 (by decide)
          have hz5 := A1.grown.size
          obtain ⟨pv1, nv1, cv1, rfl⟩ := A1.own.form
          refine RW.yl rfl rfl rfl (Yl.fieldAddr rfl rfl Try.underlying24 rfl sz22) ?_
          refine RW.sto (v := .slice pv1 nv1 cv1) (i := 0) rfl rfl hK19 (Yu.store rfl rfl rfl rfl rfl sz22 hK19 (by simp)) ?_
          intro w10 H3
          have hB10 := Bl.sto hB9 H3 lo_b2
          have hK21 := Blk.sto hK18 H3 ne1
          have hK22 := H3.blk
          have hK23 := Blk.sto hK20 H3 ne3.symm
          have hO8 := Own.sto A1.own H3 hK19 (by decide)
          have hC9 := hC8.stoT H3 hK19 (by decide)
          have hz6 := H3.size
          refine RW.nil ?_
          change CW _ _ _ _ _ _
          refine CW.region ?_
          refine RW.yl rfl rfl rfl (Yl.addN (a := k) (b := 1) rfl rfl rfl (by omega)) ?_
          refine RW.yl rfl rfl rfl (Yl.move rfl rfl) ?_
          refine RW.nil ?_
          obtain rfl : C = j := by omega
          have hr1 : ORow 3 w.heap.size w10.heap.size w10 (.slice (some ⟨b3, 0, none⟩) C C) ((List.range C).map fun y => f k y) := ORow.of hK23 lo_b3 (by simp) (by omega) (fun i hi => by rw [get_range_map _ _ _ hi]; exact hrowf i hi)
          have hC10 := hC9.snoc hr1 (by omega)
          rw [← tab_succ] at hC10
          refine ⟨(k + 1, .slice pv1 nv1 cv1, xs ++ [.slice (some ⟨b3, 0, none⟩) C C]), R - (k + 1), by omega, ⟨rfl, (by first | assumption | omega | rfl | (simp only [List.length_append, List.length_cons, List.length_nil]; omega)), (by first | assumption | omega | rfl | (simp only [List.length_append, List.length_cons, List.length_nil]; omega)), hB10, hK21, hK22, hO8, (hC10.wide (by omega)), (by omega)⟩, Sub.cons rfl (Sub.cons rfl (Sub.cons rfl (Sub.cons rfl (Sub.cons rfl (Sub.cons rfl (Sub.nil))))))⟩))
  ·
    intro hg4
    have hq8 := of_decide_eq_false hg4
    first
    | (exfalso; omega)
    | (
      refine CW.exit ?_
      change CW _ _ _ _ _ _
      refine CW.seq ?_
      refine CW.region ?_
      refine RW.yl rfl rfl rfl (Yl.loadAgg (cs := [.slice pv nv cv]) rfl rfl many24 (Blk.cells hK3)) ?_
      refine RW.stoAll (cs' := #[.slice pv nv cv]) rfl rfl hK2 (Yu.storeAll rfl rfl rfl sz24 hK2 rfl (by simp [Value.oneCell'])) ?_
      intro w11 H4
      have hB11 := Bl.sto hB3 H4 lo_b1
      have hK24 := H4.blk
      have hK25 := Blk.sto hK3 H4 ne1.symm
      have hO9 := Own.sto hO2 H4 hK2 (by decide)
      have hC11 := hC2.stoT H4 hK2 (by decide)
      have hz7 := H4.size
      refine RW.nil ?_
      change CW _ _ _ _ _ _
      refine CW.ret ?_
      change FinQ _ _ _ _ _ _
      refine finC (.inr rfl) rfl rfl (run_loadVar_many (cs := [.slice pv nv cv]) many24 (Blk.cells hK24)) ?_
      obtain rfl : R = k := by omega
      exact ⟨_, rfl, _, rfl, RRows.ofOwn hO9 hC11 (by omega) (by rw [tab_length]; omega), hB11⟩)

theorem c43_46 {w : World} {R C : Nat} {q0 : Value} {q1 : Value} {q2 : Value} {f : Nat → Nat → Int} (HC : ∀ {W : World} {x y : Nat}, x < R → y < C → Below w.heap.size w W → Calls Try.prog 46 #[.int .i64 ((x : Nat) : Int), .int .i64 ((y : Nat) : Int), q0, q1, q2] W (Ret fun r w' => r = .int .i64 (f x y) ∧ Below W.heap.size W w')) (hR : R ≤ 1048576) (hC : C ≤ 1048576) :
    Calls Try.prog 43 #[.int .i64 ((R : Nat) : Int), .int .i64 ((C : Nat) : Int), .func (.func 46) #[] #[q0, q1, q2]] w (Ret fun r w' => ∃ s, r = .agg #[s] ∧ RRows w.heap.size w'.heap.size w' s (tab R C f) ∧ Below w.heap.size w w') := by
  have hB0 : Below w.heap.size w w := Below.refl _ _
  refine Ev.calls (l := [.int .i64 ((R : Nat) : Int), .int .i64 ((C : Nat) : Int), .func (.func 46) #[] #[q0, q1, q2]]) Try.func43 rfl rfl rfl ?_
  change CW _ _ _ _ [(0, .int .i64 ((R : Nat) : Int)), (1, .int .i64 ((C : Nat) : Int)), (2, .func (.func 46) #[] #[q0, q1, q2])] _
  refine CW.seq ?_
  refine CW.region ?_
  refine RW.newP (cs := #[.slice none 0 0]) (T := 24) rfl rfl rfl (Yv.alloc (z := .agg #[.slice none 0 0]) rfl zero24) ?_
  intro b1 w1 N1
  have lo_b1 : w.heap.size ≤ b1 := by have := hB0.size; have := N1.num; omega
  have hn_b1 := N1.num
  have hs_b1 := N1.size
  have hB1 := Bl.step hB0 N1.below
  refine RW.nil ?_
  change CW _ _ _ _ _ _
  refine CW.seq ?_
  refine CW.region ?_
  refine RW.newP (cs := #[.slice none 0 0]) (T := 24) rfl rfl rfl (Yv.alloc (z := .agg #[.slice none 0 0]) rfl zero24) ?_
  intro b2 w2 N2
  have ne1 := New.ne N2 N1.blk
  have lo_b2 : w.heap.size ≤ b2 := by have := hB1.size; have := N2.num; omega
  have hn_b2 := N2.num
  have hs_b2 := N2.size
  have hB2 := Bl.step hB1 N2.below
  have hK1 := Blk.below N1.blk N2.below
  refine RW.nil ?_
  change CW _ _ _ _ _ _
  refine CW.seq ?_
  refine CW.seq ?_
  refine CW.region ?_
  refine RW.yl rfl rfl rfl (Yl.move rfl rfl) ?_
  refine RW.yl rfl rfl rfl (Yl.move rfl rfl) ?_
  refine RW.nil ?_
  change CW _ _ _ _ _ _
  refine CW.block ?_
  have hO1 := Own.nil w2 w.heap.size 31
  have hC1 : OAll 3 w.heap.size w2.heap.size w2 [] (tab 0 C f) := OAll.nil
  refine CW.loop3 (fun (k : Nat) (v : Value) (xs : List Value) => [(1, .int .i64 ((C : Nat) : Int)), (2, .func (.func 46) #[] #[q0, q1, q2]), (6, .pointer (some ⟨b1, 0, none⟩)), (7, .pointer (some ⟨b2, 0, none⟩)), (11, .int .i64 ((R : Nat) : Int)), (12, .int .i64 ((k : Nat) : Int))]) (fun k v xs gm W => (gm = R - k) ∧ (k ≤ R) ∧ (xs.length = k) ∧ (Below w.heap.size w W) ∧ (Blk W b1 #[.slice none 0 0] 24) ∧ (Blk W b2 #[v] 24) ∧ (Own W w.heap.size 31 v xs) ∧ (OAll 3 w.heap.size W.heap.size W xs (tab k C f)) ∧ (w2.heap.size ≤ W.heap.size)) 0 (.slice none 0 0) ([]) (R - 0) ⟨rfl, (by first | assumption | omega | rfl | (simp only [List.length_append, List.length_cons, List.length_nil]; omega)), (by first | assumption | omega | rfl | (simp only [List.length_append, List.length_cons, List.length_nil]; omega)), hB2, hK1, N2.blk, hO1, (hC1.wide (by omega)), (by omega)⟩ (Sub.cons rfl (Sub.cons rfl (Sub.cons rfl (Sub.cons rfl (Sub.cons rfl (Sub.cons rfl (Sub.nil))))))) ?_
  intro k v xs gm1 w3 hinv
  obtain ⟨hm1, hi1, hi2, hB3, hK2, hK3, hO2, hC2, hz1⟩ := hinv
  change CW _ _ _ _ [(1, .int .i64 ((C : Nat) : Int)), (2, .func (.func 46) #[] #[q0, q1, q2]), (6, .pointer (some ⟨b1, 0, none⟩)), (7, .pointer (some ⟨b2, 0, none⟩)), (11, .int .i64 ((R : Nat) : Int)), (12, .int .i64 ((k : Nat) : Int))] _
  obtain ⟨pv, nv, cv, rfl⟩ := hO2.form
  refine CW.seq ?_
  refine CW.region ?_
  refine RW.yl rfl rfl rfl (Yl.lss rfl rfl rfl) ?_
  refine RW.nil ?_
  change CW _ _ _ _ _ _
  refine CW.seq ?_
  refine CW.cond rfl ?_ ?_
  ·
    intro hg1
    have hq2 := of_decide_eq_true hg1
    first
    | (exfalso; omega)
    | (
      refine CW.skip ?_
      change CW _ _ _ _ _ _
      refine CW.seq ?_
      refine CW.block ?_
      refine CW.seq ?_
      refine CW.region ?_
      refine RW.yl rfl rfl rfl (Yl.move rfl rfl) ?_
      refine RW.yl rfl rfl rfl (Yl.assign rfl rfl) ?_
      refine RW.nil ?_
      change CW _ _ _ _ _ _
      refine CW.seq ?_
      refine CW.region ?_
      refine RW.yl rfl rfl rfl (Yl.move rfl rfl) ?_
      refine RW.newS (cs := Array.replicate C (.int .i64 0)) (T := 3) (l := C) (c := C) rfl rfl rfl (Yv.make (k := C) rfl rfl rfl rfl Try.underlying31 mk3 rfl (by omega)) ?_
      intro b3 w4 N3
      have ne2 := New.ne N3 hK2
      have ne3 := New.ne N3 hK3
      have lo_b3 : w.heap.size ≤ b3 := by have := hB3.size; have := N3.num; omega
      have hn_b3 := N3.num
      have hs_b3 := N3.size
      have hB4 := Bl.step hB3 N3.below
      have hK4 := Blk.below hK2 N3.below
      have hK5 := Blk.below hK3 N3.below
      have hO3 := Own.below hO2 N3.below
      have hC3 := hC2.below N3.below
      refine RW.yl rfl rfl rfl (Yl.assign rfl rfl) ?_
      refine RW.nil ?_
      change CW _ _ _ _ _ _
      refine CW.seq ?_
      refine CW.seq ?_
      refine CW.region ?_
      refine RW.yl rfl rfl rfl (Yl.move rfl rfl) ?_
      refine RW.yl rfl rfl rfl (Yl.len rfl rfl Try.underlying31) ?_
      refine RW.yl rfl rfl rfl (Yl.move rfl rfl) ?_
      refine RW.nil ?_
      change CW _ _ _ _ _ _
      refine CW.block ?_
      refine CW.loop2 (fun (j : Nat) (cur : Array Value) => [(1, .int .i64 ((C : Nat) : Int)), (2, .func (.func 46) #[] #[q0, q1, q2]), (6, .pointer (some ⟨b1, 0, none⟩)), (7, .pointer (some ⟨b2, 0, none⟩)), (8, .int .i64 ((k : Nat) : Int)), (9, .slice (some ⟨b3, 0, none⟩) C C), (11, .int .i64 ((R : Nat) : Int)), (12, .int .i64 ((k : Nat) : Int)), (13, .bool (decide (((k : Nat) : Int) < ((R : Nat) : Int)))), (14, .int .i64 ((k : Nat) : Int)), (15, .int .i64 ((C : Nat) : Int)), (16, .slice (some ⟨b3, 0, none⟩) C C), (17, .slice (some ⟨b3, 0, none⟩) C C), (18, .int .i64 ((C : Nat) : Int)), (19, .int .i64 ((j : Nat) : Int))]) (fun j cur gm W => (gm = C - j) ∧ (j ≤ C) ∧ (cur.size = C) ∧ (∀ i, i < j → cur[i]? = some (.int .i64 (f k i))) ∧ (Below w.heap.size w W) ∧ (Blk W b1 #[.slice none 0 0] 24) ∧ (Blk W b2 #[.slice pv nv cv] 24) ∧ (Blk W b3 cur 3) ∧ (Own W w.heap.size 31 (.slice pv nv cv) xs) ∧ (OAll 3 w.heap.size w3.heap.size W xs (tab k C f)) ∧ (w4.heap.size ≤ W.heap.size)) 0 (Array.replicate C (.int .i64 0)) (C - 0) ⟨rfl, (by first | assumption | omega | rfl | (first | exact Array.size_replicate | (intro i hi; omega) | exact size_set (by assumption) | exact fill_next (g := fun i => .int .i64 (f k i)) (by assumption) (by omega))), (by first | assumption | omega | rfl | (first | exact Array.size_replicate | (intro i hi; omega) | exact size_set (by assumption) | exact fill_next (g := fun i => .int .i64 (f k i)) (by assumption) (by omega))), (by first | assumption | omega | rfl | (first | exact Array.size_replicate | (intro i hi; omega) | exact size_set (by assumption) | exact fill_next (g := fun i => .int .i64 (f k i)) (by assumption) (by omega))), hB4, hK4, hK5, N3.blk, hO3, hC3, (by omega)⟩ (Sub.cons rfl (Sub.cons rfl (Sub.cons rfl (Sub.cons rfl (Sub.cons rfl (Sub.cons rfl (Sub.cons rfl (Sub.cons rfl (Sub.cons rfl (Sub.cons rfl (Sub.cons rfl (Sub.cons rfl (Sub.cons rfl (Sub.cons rfl (Sub.cons rfl (Sub.nil)))))))))))))))) ?_
      intro j cur gm2 w5 hinv
      obtain ⟨hm2, hi3, hi4, hi5, hB5, hK6, hK7, hK8, hO4, hC4, hz2⟩ := hinv
      change CW _ _ _ _ [(1, .int .i64 ((C : Nat) : Int)), (2, .func (.func 46) #[] #[q0, q1, q2]), (6, .pointer (some ⟨b1, 0, none⟩)), (7, .pointer (some ⟨b2, 0, none⟩)), (8, .int .i64 ((k : Nat) : Int)), (9, .slice (some ⟨b3, 0, none⟩) C C), (11, .int .i64 ((R : Nat) : Int)), (12, .int .i64 ((k : Nat) : Int)), (13, .bool (decide (((k : Nat) : Int) < ((R : Nat) : Int)))), (14, .int .i64 ((k : Nat) : Int)), (15, .int .i64 ((C : Nat) : Int)), (16, .slice (some ⟨b3, 0, none⟩) C C), (17, .slice (some ⟨b3, 0, none⟩) C C), (18, .int .i64 ((C : Nat) : Int)), (19, .int .i64 ((j : Nat) : Int))] _
      have hrowf := hi5
      refine CW.seq ?_
      refine CW.region ?_
      refine RW.yl rfl rfl rfl (Yl.lss rfl rfl rfl) ?_
      refine RW.nil ?_
      change CW _ _ _ _ _ _
      refine CW.seq ?_
      refine CW.cond rfl ?_ ?_
      ·
        intro hg2
        have hq4 := of_decide_eq_true hg2
        first
        | (exfalso; omega)
        | (
          refine CW.skip ?_
          change CW _ _ _ _ _ _
          refine CW.seq ?_
          refine CW.block ?_
          refine CW.seq ?_
          refine CW.region ?_
          refine RW.yl rfl rfl rfl (Yl.move rfl rfl) ?_
          refine RW.yl rfl rfl rfl (Yl.assign rfl rfl) ?_
          refine RW.nil ?_
          change CW _ _ _ _ _ _
          refine CW.region ?_
          refine RW.yl rfl rfl rfl (Yl.move rfl rfl) ?_
          refine RW.yl rfl rfl rfl (Yl.move rfl rfl) ?_
          refine RW.yl rfl rfl rfl (Yl.move rfl rfl) ?_
          refine RW.yl rfl rfl rfl (Yl.move rfl rfl) ?_
          refine RW.yl rfl rfl rfl (Yl.move rfl rfl) ?_
          refine RW.fn rfl rfl rfl (Yc.closure #[.int .i64 ((k : Nat) : Int), .int .i64 ((j : Nat) : Int), q0, q1, q2] rfl rfl ok46 (capt (args2 rfl rfl) rfl)) (HC (x := k) (y := j) (by omega) (by omega) hB5) ?_
          rintro _ w6 ⟨rfl, H1⟩
          have hB6 := Bl.step hB5 H1
          have hK9 := Blk.below hK6 H1
          have hK10 := Blk.below hK7 H1
          have hK11 := Blk.below hK8 H1
          have hO5 := Own.below hO4 H1
          have hC5 := hC4.below H1
          have hz3 := H1.size
          refine RW.yl rfl rfl rfl (Yl.indexAddr1 (k := j) rfl rfl rfl Try.underlying31 sz3 rfl rfl (by omega)) ?_
          refine RW.sto (v := .int .i64 (f k j)) (i := 0 + j) rfl rfl hK11 (Yu.store rfl rfl rfl rfl rfl sz3 hK11 (by omega)) ?_
          intro w7 H2
          have hB7 := Bl.sto hB6 H2 lo_b3
          have hK12 := Blk.sto hK9 H2 ne2
          have hK13 := Blk.sto hK10 H2 ne3
          have hK14 := H2.blk
          have hO6 := Own.sto hO5 H2 hK11 (by decide)
          have hC6 := hC5.sto H2 (by omega)
          have hz4 := H2.size
          refine RW.nil ?_
          change CW _ _ _ _ _ _
          refine CW.region ?_
          refine RW.yl rfl rfl rfl (Yl.addN (a := j) (b := 1) rfl rfl rfl (by omega)) ?_
          refine RW.yl rfl rfl rfl (Yl.move rfl rfl) ?_
          refine RW.nil ?_
          refine ⟨(j + 1, (cur).setIfInBounds (0 + j) (.int .i64 (f k j))), C - (j + 1), by omega, ⟨rfl, (by first | assumption | omega | rfl | (first | exact Array.size_replicate | (intro i hi; omega) | exact size_set (by assumption) | exact fill_next (g := fun i => .int .i64 (f k i)) (by assumption) (by omega))), (by first | assumption | omega | rfl | (first | exact Array.size_replicate | (intro i hi; omega) | exact size_set (by assumption) | exact fill_next (g := fun i => .int .i64 (f k i)) (by assumption) (by omega))), (by first | assumption | omega | rfl | (first | exact Array.size_replicate | (intro i hi; omega) | exact size_set (by assumption) | exact fill_next (g := fun i => .int .i64 (f k i)) (by assumption) (by omega))), hB7, hK12, hK13, hK14, hO6, hC6, (by omega)⟩, Sub.cons rfl (Sub.cons rfl (Sub.cons rfl (Sub.cons rfl (Sub.cons rfl (Sub.cons rfl (Sub.cons rfl (Sub.cons rfl (Sub.cons rfl (Sub.cons rfl (Sub.cons rfl (Sub.cons rfl (Sub.cons rfl (Sub.cons rfl (Sub.cons rfl (Sub.nil)))))))))))))))⟩)
      ·
        intro hg3
        have hq6 := of_decide_eq_false hg3
        first
        | (exfalso; omega)
        | (
          refine CW.exit ?_
          change CW _ _ _ _ _ _
          refine CW.region ?_
          refine RW.yl rfl rfl rfl (Yl.fieldAddr rfl rfl Try.underlying24 rfl sz22) ?_
          refine RW.yl rfl rfl rfl (Yl.load rfl rfl one22 (Blk.cell hK7 rfl)) ?_
          refine RW.yl rfl rfl rfl (Yl.move rfl rfl) ?_
          refine RW.newS (cs := #[.slice (some ⟨b3, 0, none⟩) C C]) (T := 31) (l := 1) (c := 1) rfl rfl rfl (Yv.lit1 rfl rfl rfl Try.underlying22 mkx31) ?_
          intro b4 w8 N4
          have ne4 := New.ne N4 hK6
          have ne5 := New.ne N4 hK7
          have ne6 := New.ne N4 hK8
          have lo_b4 : w.heap.size ≤ b4 := by have := hB5.size; have := N4.num; omega
          have hn_b4 := N4.num
          have hs_b4 := N4.size
          have hB8 := Bl.step hB5 N4.below
          have hK15 := Blk.below hK6 N4.below
          have hK16 := Blk.below hK7 N4.below
          have hK17 := Blk.below hK8 N4.below
          have hO7 := Own.below hO4 N4.below
          have hC7 := hC4.below N4.below
          refine RW.app rfl rfl rfl (Yv.append (u := .slice (some ⟨b3, 0, none⟩) C C) rfl rfl rfl Try.underlying22 mkx31 hO7 N4.blk rfl (by first | omega | (simp only [List.length_map, List.length_range]; omega)) (by omega)) ?_
          intro v1 w9 A1
          have hB9 := Bl.app hB8 A1 hO7 (Nat.le_refl _)
          have hK18 := Blk.app hK15 A1 hO7 (by decide)
          have hK19 := Blk.app hK16 A1 hO7 (by decide)
          have hK20 := Blk.app hK17 A1 hO7 (by decide)
          have hC8 := hC7.app A1 hO7 (by decide)
          have hz5 := A1.grown.size
          obtain ⟨pv1, nv1, cv1, rfl⟩ := A1.own.form
          refine RW.yl rfl rfl rfl (Yl.fieldAddr rfl rfl Try.underlying24 rfl sz22) ?_
          refine RW.sto (v := .slice pv1 nv1 cv1) (i := 0) rfl rfl hK19 (Yu.store rfl rfl rfl rfl rfl sz22 hK19 (by simp)) ?_
          intro w10 H3
          have hB10 := Bl.sto hB9 H3 lo_b2
          have hK21 := Blk.sto hK18 H3 ne1
          have hK22 := H3.blk
          have hK23 := Blk.sto hK20 H3 ne3.symm
          have hO8 := Own.sto A1.own H3 hK19 (by decide)
          have hC9 := hC8.stoT H3 hK19 (by decide)
          have hz6 := H3.size
          refine RW.nil ?_
          change CW _ _ _ _ _ _
          refine CW.region ?_
          refine RW.yl rfl rfl rfl (Yl.addN (a := k) (b := 1) rfl rfl rfl (by omega)) ?_
          refine RW.yl rfl rfl rfl (Yl.move rfl rfl) ?_
          refine RW.nil ?_
          obtain rfl : C = j := by omega
          have hr1 : ORow 3 w.heap.size w10.heap.size w10 (.slice (some ⟨b3, 0, none⟩) C C) ((List.range C).map fun y => f k y) := ORow.of hK23 lo_b3 (by simp) (by omega) (fun i hi => by rw [get_range_map _ _ _ hi]; exact hrowf i hi)
          have hC10 := hC9.snoc hr1 (by omega)
          rw [← tab_succ] at hC10
          refine ⟨(k + 1, .slice pv1 nv1 cv1, xs ++ [.slice (some ⟨b3, 0, none⟩) C C]), R - (k + 1), by omega, ⟨rfl, (by first | assumption | omega | rfl | (simp only [List.length_append, List.length_cons, List.length_nil]; omega)), (by first | assumption | omega | rfl | (simp only [List.length_append, List.length_cons, List.length_nil]; omega)), hB10, hK21, hK22, hO8, (hC10.wide (by omega)), (by omega)⟩, Sub.cons rfl (Sub.cons rfl (Sub.cons rfl (Sub.cons rfl (Sub.cons rfl (Sub.cons rfl (Sub.nil))))))⟩))
  ·
    intro hg4
    have hq8 := of_decide_eq_false hg4
    first
    | (exfalso; omega)
    | (
      refine CW.exit ?_
      change CW _ _ _ _ _ _
      refine CW.seq ?_
      refine CW.region ?_
      refine RW.yl rfl rfl rfl (Yl.loadAgg (cs := [.slice pv nv cv]) rfl rfl many24 (Blk.cells hK3)) ?_
      refine RW.stoAll (cs' := #[.slice pv nv cv]) rfl rfl hK2 (Yu.storeAll rfl rfl rfl sz24 hK2 rfl (by simp [Value.oneCell'])) ?_
      intro w11 H4
      have hB11 := Bl.sto hB3 H4 lo_b1
      have hK24 := H4.blk
      have hK25 := Blk.sto hK3 H4 ne1.symm
      have hO9 := Own.sto hO2 H4 hK2 (by decide)
      have hC11 := hC2.stoT H4 hK2 (by decide)
      have hz7 := H4.size
      refine RW.nil ?_
      change CW _ _ _ _ _ _
      refine CW.ret ?_
      change FinQ _ _ _ _ _ _
      refine finC (.inr rfl) rfl rfl (run_loadVar_many (cs := [.slice pv nv cv]) many24 (Blk.cells hK24)) ?_
      obtain rfl : R = k := by omega
      exact ⟨_, rfl, _, rfl, RRows.ofOwn hO9 hC11 (by omega) (by rw [tab_length]; omega), hB11⟩)

theorem c43_49 {w : World} {R C : Nat} {q0 : Value} {f : Nat → Nat → Int} (HC : ∀ {W : World} {x y : Nat}, x < R → y < C → Below w.heap.size w W → Calls Try.prog 49 #[.int .i64 ((x : Nat) : Int), .int .i64 ((y : Nat) : Int), q0] W (Ret fun r w' => r = .int .i64 (f x y) ∧ Below W.heap.size W w')) (hR : R ≤ 1048576) (hC : C ≤ 1048576) :
    Calls Try.prog 43 #[.int .i64 ((R : Nat) : Int), .int .i64 ((C : Nat) : Int), .func (.func 49) #[] #[q0]] w (Ret fun r w' => ∃ s, r = .agg #[s] ∧ RRows w.heap.size w'.heap.size w' s (tab R C f) ∧ Below w.heap.size w w') := by
  have hB0 : Below w.heap.size w w := Below.refl _ _
  refine Ev.calls (l := [.int .i64 ((R : Nat) : Int), .int .i64 ((C : Nat) : Int), .func (.func 49) #[] #[q0]]) Try.func43 rfl rfl rfl ?_
  change CW _ _ _ _ [(0, .int .i64 ((R : Nat) : Int)), (1, .int .i64 ((C : Nat) : Int)), (2, .func (.func 49) #[] #[q0])] _
  refine CW.seq ?_
  refine CW.region ?_
  refine RW.newP (cs := #[.slice none 0 0]) (T := 24) rfl rfl rfl (Yv.alloc (z := .agg #[.slice none 0 0]) rfl zero24) ?_
  intro b1 w1 N1
  have lo_b1 : w.heap.size ≤ b1 := by have := hB0.size; have := N1.num; omega
  have hn_b1 := N1.num
  have hs_b1 := N1.size
  have hB1 := Bl.step hB0 N1.below
  refine RW.nil ?_
  change CW _ _ _ _ _ _
  refine CW.seq ?_
  refine CW.region ?_
  refine RW.newP (cs := #[.slice none 0 0]) (T := 24) rfl rfl rfl (Yv.alloc (z := .agg #[.slice none 0 0]) rfl zero24) ?_
  intro b2 w2 N2
  have ne1 := New.ne N2 N1.blk
  have lo_b2 : w.heap.size ≤ b2 := by have := hB1.size; have := N2.num; omega
  have hn_b2 := N2.num
  have hs_b2 := N2.size
  have hB2 := Bl.step hB1 N2.below
  have hK1 := Blk.below N1.blk N2.below
  refine RW.nil ?_
  change CW _ _ _ _ _ _
  refine CW.seq ?_
  refine CW.seq ?_
  refine CW.region ?_
  refine RW.yl rfl rfl rfl (Yl.move rfl rfl) ?_
  refine RW.yl rfl rfl rfl (Yl.move rfl rfl) ?_
  refine RW.nil ?_
  change CW _ _ _ _ _ _
  refine CW.block ?_
  have hO1 := Own.nil w2 w.heap.size 31
  have hC1 : OAll 3 w.heap.size w2.heap.size w2 [] (tab 0 C f) := OAll.nil
  refine CW.loop3 (fun (k : Nat) (v : Value) (xs : List Value) => [(1, .int .i64 ((C : Nat) : Int)), (2, .func (.func 49) #[] #[q0]), (6, .pointer (some ⟨b1, 0, none⟩)), (7, .pointer (some ⟨b2, 0, none⟩)), (11, .int .i64 ((R : Nat) : Int)), (12, .int .i64 ((k : Nat) : Int))]) (fun k v xs gm W => (gm = R - k) ∧ (k ≤ R) ∧ (xs.length = k) ∧ (Below w.heap.size w W) ∧ (Blk W b1 #[.slice none 0 0] 24) ∧ (Blk W b2 #[v] 24) ∧ (Own W w.heap.size 31 v xs) ∧ (OAll 3 w.heap.size W.heap.size W xs (tab k C f)) ∧ (w2.heap.size ≤ W.heap.size)) 0 (.slice none 0 0) ([]) (R - 0) ⟨rfl, (by first | assumption | omega | rfl | (simp only [List.length_append, List.length_cons, List.length_nil]; omega)), (by first | assumption | omega | rfl | (simp only [List.length_append, List.length_cons, List.length_nil]; omega)), hB2, hK1, N2.blk, hO1, (hC1.wide (by omega)), (by omega)⟩ (Sub.cons rfl (Sub.cons rfl (Sub.cons rfl (Sub.cons rfl (Sub.cons rfl (Sub.cons rfl (Sub.nil))))))) ?_
  intro k v xs gm1 w3 hinv
  obtain ⟨hm1, hi1, hi2, hB3, hK2, hK3, hO2, hC2, hz1⟩ := hinv
  change CW _ _ _ _ [(1, .int .i64 ((C : Nat) : Int)), (2, .func (.func 49) #[] #[q0]), (6, .pointer (some ⟨b1, 0, none⟩)), (7, .pointer (some ⟨b2, 0, none⟩)), (11, .int .i64 ((R : Nat) : Int)), (12, .int .i64 ((k : Nat) : Int))] _
  obtain ⟨pv, nv, cv, rfl⟩ := hO2.form
  refine CW.seq ?_
  refine CW.region ?_
  refine RW.yl rfl rfl rfl (Yl.lss rfl rfl rfl) ?_
  refine RW.nil ?_
  change CW _ _ _ _ _ _
  refine CW.seq ?_
  refine CW.cond rfl ?_ ?_
  ·
    intro hg1
    have hq2 := of_decide_eq_true hg1
    first
    | (exfalso; omega)
    | (
      refine CW.skip ?_
      change CW _ _ _ _ _ _
      refine CW.seq ?_
      refine CW.block ?_
      refine CW.seq ?_
      refine CW.region ?_
      refine RW.yl rfl rfl rfl (Yl.move rfl rfl) ?_
      refine RW.yl rfl rfl rfl (Yl.assign rfl rfl) ?_
      refine RW.nil ?_
      change CW _ _ _ _ _ _
      refine CW.seq ?_
      refine CW.region ?_
      refine RW.yl rfl rfl rfl (Yl.move rfl rfl) ?_
      refine RW.newS (cs := Array.replicate C (.int .i64 0)) (T := 3) (l := C) (c := C) rfl rfl rfl (Yv.make (k := C) rfl rfl rfl rfl Try.underlying31 mk3 rfl (by omega)) ?_
      intro b3 w4 N3
      have ne2 := New.ne N3 hK2
      have ne3 := New.ne N3 hK3
      have lo_b3 : w.heap.size ≤ b3 := by have := hB3.size; have := N3.num; omega
      have hn_b3 := N3.num
      have hs_b3 := N3.size
      have hB4 := Bl.step hB3 N3.below
      have hK4 := Blk.below hK2 N3.below
      have hK5 := Blk.below hK3 N3.below
      have hO3 := Own.below hO2 N3.below
      have hC3 := hC2.below N3.below
      refine RW.yl rfl rfl rfl (Yl.assign rfl rfl) ?_
      refine RW.nil ?_
      change CW _ _ _ _ _ _
      refine CW.seq ?_
      refine CW.seq ?_
      refine CW.region ?_
      refine RW.yl rfl rfl rfl (Yl.move rfl rfl) ?_
      refine RW.yl rfl rfl rfl (Yl.len rfl rfl Try.underlying31) ?_
      refine RW.yl rfl rfl rfl (Yl.move rfl rfl) ?_
      refine RW.nil ?_
      change CW _ _ _ _ _ _
      refine CW.block ?_
      refine CW.loop2 (fun (j : Nat) (cur : Array Value) => [(1, .int .i64 ((C : Nat) : Int)), (2, .func (.func 49) #[] #[q0]), (6, .pointer (some ⟨b1, 0, none⟩)), (7, .pointer (some ⟨b2, 0, none⟩)), (8, .int .i64 ((k : Nat) : Int)), (9, .slice (some ⟨b3, 0, none⟩) C C), (11, .int .i64 ((R : Nat) : Int)), (12, .int .i64 ((k : Nat) : Int)), (13, .bool (decide (((k : Nat) : Int) < ((R : Nat) : Int)))), (14, .int .i64 ((k : Nat) : Int)), (15, .int .i64 ((C : Nat) : Int)), (16, .slice (some ⟨b3, 0, none⟩) C C), (17, .slice (some ⟨b3, 0, none⟩) C C), (18, .int .i64 ((C : Nat) : Int)), (19, .int .i64 ((j : Nat) : Int))]) (fun j cur gm W => (gm = C - j) ∧ (j ≤ C) ∧ (cur.size = C) ∧ (∀ i, i < j → cur[i]? = some (.int .i64 (f k i))) ∧ (Below w.heap.size w W) ∧ (Blk W b1 #[.slice none 0 0] 24) ∧ (Blk W b2 #[.slice pv nv cv] 24) ∧ (Blk W b3 cur 3) ∧ (Own W w.heap.size 31 (.slice pv nv cv) xs) ∧ (OAll 3 w.heap.size w3.heap.size W xs (tab k C f)) ∧ (w4.heap.size ≤ W.heap.size)) 0 (Array.replicate C (.int .i64 0)) (C - 0) ⟨rfl, (by first | assumption | omega | rfl | (first | exact Array.size_replicate | (intro i hi; omega) | exact size_set (by assumption) | exact fill_next (g := fun i => .int .i64 (f k i)) (by assumption) (by omega))), (by first | assumption | omega | rfl | (first | exact Array.size_replicate | (intro i hi; omega) | exact size_set (by assumption) | exact fill_next (g := fun i => .int .i64 (f k i)) (by assumption) (by omega))), (by first | assumption | omega | rfl | (first | exact Array.size_replicate | (intro i hi; omega) | exact size_set (by assumption) | exact fill_next (g := fun i => .int .i64 (f k i)) (by assumption) (by omega))), hB4, hK4, hK5, N3.blk, hO3, hC3, (by omega)⟩ (Sub.cons rfl (Sub.cons rfl (Sub.cons rfl (Sub.cons rfl (Sub.cons rfl (Sub.cons rfl (Sub.cons rfl (Sub.cons rfl (Sub.cons rfl (Sub.cons rfl (Sub.cons rfl (Sub.cons rfl (Sub.cons rfl (Sub.cons rfl (Sub.cons rfl (Sub.nil)))))))))))))))) ?_
      intro j cur gm2 w5 hinv
      obtain ⟨hm2, hi3, hi4, hi5, hB5, hK6, hK7, hK8, hO4, hC4, hz2⟩ := hinv
      change CW _ _ _ _ [(1, .int .i64 ((C : Nat) : Int)), (2, .func (.func 49) #[] #[q0]), (6, .pointer (some ⟨b1, 0, none⟩)), (7, .pointer (some ⟨b2, 0, none⟩)), (8, .int .i64 ((k : Nat) : Int)), (9, .slice (some ⟨b3, 0, none⟩) C C), (11, .int .i64 ((R : Nat) : Int)), (12, .int .i64 ((k : Nat) : Int)), (13, .bool (decide (((k : Nat) : Int) < ((R : Nat) : Int)))), (14, .int .i64 ((k : Nat) : Int)), (15, .int .i64 ((C : Nat) : Int)), (16, .slice (some ⟨b3, 0, none⟩) C C), (17, .slice (some ⟨b3, 0, none⟩) C C), (18, .int .i64 ((C : Nat) : Int)), (19, .int .i64 ((j : Nat) : Int))] _
      have hrowf := hi5
      refine CW.seq ?_
      refine CW.region ?_
      refine RW.yl rfl rfl rfl (Yl.lss rfl rfl rfl) ?_
      refine RW.nil ?_
      change CW _ _ _ _ _ _
      refine CW.seq ?_
      refine CW.cond rfl ?_ ?_
      ·
        intro hg2
        have hq4 := of_decide_eq_true hg2
        first
        | (exfalso; omega)
        | (
          refine CW.skip ?_
          change CW _ _ _ _ _ _
          refine CW.seq ?_
          refine CW.block ?_
          refine CW.seq ?_
          refine CW.region ?_
          refine RW.yl rfl rfl rfl (Yl.move rfl rfl) ?_
          refine RW.yl rfl rfl rfl (Yl.assign rfl rfl) ?_
          refine RW.nil ?_
          change CW _ _ _ _ _ _
          refine CW.region ?_
          refine RW.yl rfl rfl rfl (Yl.move rfl rfl) ?_
          refine RW.yl rfl rfl rfl (Yl.move rfl rfl) ?_
          refine RW.yl rfl rfl rfl (Yl.move rfl rfl) ?_
          refine RW.yl rfl rfl rfl (Yl.move rfl rfl) ?_
          refine RW.yl rfl rfl rfl (Yl.move rfl rfl) ?_
          refine RW.fn rfl rfl rfl (Yc.closure #[.int .i64 ((k : Nat) : Int), .int .i64 ((j : Nat) : Int), q0] rfl rfl ok49 (capt (args2 rfl rfl) rfl)) (HC (x := k) (y := j) (by omega) (by omega) hB5) ?_
          rintro _ w6 ⟨rfl, H1⟩
          have hB6 := Bl.step hB5 H1
          have hK9 := Blk.below hK6 H1
          have hK10 := Blk.below hK7 H1
          have hK11 := Blk.below hK8 H1
          have hO5 := Own.below hO4 H1
          have hC5 := hC4.below H1
          have hz3 := H1.size
          refine RW.yl rfl rfl rfl (Yl.indexAddr1 (k := j) rfl rfl rfl Try.underlying31 sz3 rfl rfl (by omega)) ?_
          refine RW.sto (v := .int .i64 (f k j)) (i := 0 + j) rfl rfl hK11 (Yu.store rfl rfl rfl rfl rfl sz3 hK11 (by omega)) ?_
          intro w7 H2
          have hB7 := Bl.sto hB6 H2 lo_b3
          have hK12 := Blk.sto hK9 H2 ne2
          have hK13 := Blk.sto hK10 H2 ne3
          have hK14 := H2.blk
          have hO6 := Own.sto hO5 H2 hK11 (by decide)
          have hC6 := hC5.sto H2 (by omega)
          have hz4 := H2.size
          refine RW.nil ?_
          change CW _ _ _ _ _ _
          refine CW.region ?_
          refine RW.yl rfl rfl rfl (Yl.addN (a := j) (b := 1) rfl rfl rfl (by omega)) ?_
          refine RW.yl rfl rfl rfl (Yl.move rfl rfl) ?_
          refine RW.nil ?_
          refine ⟨(j + 1, (cur).setIfInBounds (0 + j) (.int .i64 (f k j))), C - (j + 1), by omega, ⟨rfl, (by first | assumption | omega | rfl | (first | exact Array.size_replicate | (intro i hi; omega) | exact size_set (by assumption) | exact fill_next (g := fun i => .int .i64 (f k i)) (by assumption) (by omega))), (by first | assumption | omega | rfl | (first | exact Array.size_replicate | (intro i hi; omega) | exact size_set (by assumption) | exact fill_next (g := fun i => .int .i64 (f k i)) (by assumption) (by omega))), (by first | assumption | omega | rfl | (first | exact Array.size_replicate | (intro i hi; omega) | exact size_set (by assumption) | exact fill_next (g := fun i => .int .i64 (f k i)) (by assumption) (by omega))), hB7, hK12, hK13, hK14, hO6, hC6, (by omega)⟩, Sub.cons rfl (Sub.cons rfl (Sub.cons rfl (Sub.cons rfl (Sub.cons rfl (Sub.cons rfl (Sub.cons rfl (Sub.cons rfl (Sub.cons rfl (Sub.cons rfl (Sub.cons rfl (Sub.cons rfl (Sub.cons rfl (Sub.cons rfl (Sub.cons rfl (Sub.nil)))))))))))))))⟩)
      ·
        intro hg3
        have hq6 := of_decide_eq_false hg3
        first
        | (exfalso; omega)
        | (
          refine CW.exit ?_
          change CW _ _ _ _ _ _
          refine CW.region ?_
          refine RW.yl rfl rfl rfl (Yl.fieldAddr rfl rfl Try.underlying24 rfl sz22) ?_
          refine RW.yl rfl rfl rfl (Yl.load rfl rfl one22 (Blk.cell hK7 rfl)) ?_
          refine RW.yl rfl rfl rfl (Yl.move rfl rfl) ?_
          refine RW.newS (cs := #[.slice (some ⟨b3, 0, none⟩) C C]) (T := 31) (l := 1) (c := 1) rfl rfl rfl (Yv.lit1 rfl rfl rfl Try.underlying22 mkx31) ?_
          intro b4 w8 N4
          have ne4 := New.ne N4 hK6
          have ne5 := New.ne N4 hK7
          have ne6 := New.ne N4 hK8
          have lo_b4 : w.heap.size ≤ b4 := by have := hB5.size; have := N4.num; omega
          have hn_b4 := N4.num
          have hs_b4 := N4.size
          have hB8 := Bl.step hB5 N4.below
          have hK15 := Blk.below hK6 N4.below
          have hK16 := Blk.below hK7 N4.below
          have hK17 := Blk.below hK8 N4.below
          have hO7 := Own.below hO4 N4.below
          have hC7 := hC4.below N4.below
          refine RW.app rfl rfl rfl (Yv.append (u := .slice (some ⟨b3, 0, none⟩) C C) rfl rfl rfl Try.underlying22 mkx31 hO7 N4.blk rfl (by first | omega | (simp only [List.length_map, List.length_range]; omega)) (by omega)) ?_
          intro v1 w9 A1
          have hB9 := Bl.app hB8 A1 hO7 (Nat.le_refl _)
          have hK18 := Blk.app hK15 A1 hO7 (by decide)
          have hK19 := Blk.app hK16 A1 hO7 (by decide)
          have hK20 := Blk.app hK17 A1 hO7 (by decide)
          have hC8 := hC7.app A1 hO7 (by decide)
          have hz5 := A1.grown.size
          obtain ⟨pv1, nv1, cv1, rfl⟩ := A1.own.form
          refine RW.yl rfl rfl rfl (Yl.fieldAddr rfl rfl Try.underlying24 rfl sz22) ?_
          refine RW.sto (v := .slice pv1 nv1 cv1) (i := 0) rfl rfl hK19 (Yu.store rfl rfl rfl rfl rfl sz22 hK19 (by simp)) ?_
          intro w10 H3
          have hB10 := Bl.sto hB9 H3 lo_b2
          have hK21 := Blk.sto hK18 H3 ne1
          have hK22 := H3.blk
          have hK23 := Blk.sto hK20 H3 ne3.symm
          have hO8 := Own.sto A1.own H3 hK19 (by decide)
          have hC9 := hC8.stoT H3 hK19 (by decide)
          have hz6 := H3.size
          refine RW.nil ?_
          change CW _ _ _ _ _ _
          refine CW.region ?_
          refine RW.yl rfl rfl rfl (Yl.addN (a := k) (b := 1) rfl rfl rfl (by omega)) ?_
          refine RW.yl rfl rfl rfl (Yl.move rfl rfl) ?_
          refine RW.nil ?_
          obtain rfl : C = j := by omega
          have hr1 : ORow 3 w.heap.size w10.heap.size w10 (.slice (some ⟨b3, 0, none⟩) C C) ((List.range C).map fun y => f k y) := ORow.of hK23 lo_b3 (by simp) (by omega) (fun i hi => by rw [get_range_map _ _ _ hi]; exact hrowf i hi)
          have hC10 := hC9.snoc hr1 (by omega)
          rw [← tab_succ] at hC10
          refine ⟨(k + 1, .slice pv1 nv1 cv1, xs ++ [.slice (some ⟨b3, 0, none⟩) C C]), R - (k + 1), by omega, ⟨rfl, (by first | assumption | omega | rfl | (simp only [List.length_append, List.length_cons, List.length_nil]; omega)), (by first | assumption | omega | rfl | (simp only [List.length_append, List.length_cons, List.length_nil]; omega)), hB10, hK21, hK22, hO8, (hC10.wide (by omega)), (by omega)⟩, Sub.cons rfl (Sub.cons rfl (Sub.cons rfl (Sub.cons rfl (Sub.cons rfl (Sub.cons rfl (Sub.nil))))))⟩))
  ·
    intro hg4
    have hq8 := of_decide_eq_false hg4
    first
    | (exfalso; omega)
    | (
      refine CW.exit ?_
      change CW _ _ _ _ _ _
      refine CW.seq ?_
      refine CW.region ?_
      refine RW.yl rfl rfl rfl (Yl.loadAgg (cs := [.slice pv nv cv]) rfl rfl many24 (Blk.cells hK3)) ?_
      refine RW.stoAll (cs' := #[.slice pv nv cv]) rfl rfl hK2 (Yu.storeAll rfl rfl rfl sz24 hK2 rfl (by simp [Value.oneCell'])) ?_
      intro w11 H4
      have hB11 := Bl.sto hB3 H4 lo_b1
      have hK24 := H4.blk
      have hK25 := Blk.sto hK3 H4 ne1.symm
      have hO9 := Own.sto hO2 H4 hK2 (by decide)
      have hC11 := hC2.stoT H4 hK2 (by decide)
      have hz7 := H4.size
      refine RW.nil ?_
      change CW _ _ _ _ _ _
      refine CW.ret ?_
      change FinQ _ _ _ _ _ _
      refine finC (.inr rfl) rfl rfl (run_loadVar_many (cs := [.slice pv nv cv]) many24 (Blk.cells hK24)) ?_
      obtain rfl : R = k := by omega
      exact ⟨_, rfl, _, rfl, RRows.ofOwn hO9 hC11 (by omega) (by rw [tab_length]; omega), hB11⟩)

theorem c43_51 {w : World} {R C : Nat} {q0 : Value} {q1 : Value} {q2 : Value} {q3 : Value} {q4 : Value} {q5 : Value} {f : Nat → Nat → Int} (HC : ∀ {W : World} {x y : Nat}, x < R → y < C → Below w.heap.size w W → Calls Try.prog 51 #[.int .i64 ((x : Nat) : Int), .int .i64 ((y : Nat) : Int), q0, q1, q2, q3, q4, q5] W (Ret fun r w' => r = .int .i64 (f x y) ∧ Below W.heap.size W w')) (hR : R ≤ 1048576) (hC : C ≤ 1048576) :
    Calls Try.prog 43 #[.int .i64 ((R : Nat) : Int), .int .i64 ((C : Nat) : Int), .func (.func 51) #[] #[q0, q1, q2, q3, q4, q5]] w (Ret fun r w' => ∃ s, r = .agg #[s] ∧ RRows w.heap.size w'.heap.size w' s (tab R C f) ∧ Below w.heap.size w w') := by
  have hB0 : Below w.heap.size w w := Below.refl _ _
  refine Ev.calls (l := [.int .i64 ((R : Nat) : Int), .int .i64 ((C : Nat) : Int), .func (.func 51) #[] #[q0, q1, q2, q3, q4, q5]]) Try.func43 rfl rfl rfl ?_
  change CW _ _ _ _ [(0, .int .i64 ((R : Nat) : Int)), (1, .int .i64 ((C : Nat) : Int)), (2, .func (.func 51) #[] #[q0, q1, q2, q3, q4, q5])] _
  refine CW.seq ?_
  refine CW.region ?_
  refine RW.newP (cs := #[.slice none 0 0]) (T := 24) rfl rfl rfl (Yv.alloc (z := .agg #[.slice none 0 0]) rfl zero24) ?_
  intro b1 w1 N1
  have lo_b1 : w.heap.size ≤ b1 := by have := hB0.size; have := N1.num; omega
  have hn_b1 := N1.num
  have hs_b1 := N1.size
  have hB1 := Bl.step hB0 N1.below
  refine RW.nil ?_
  change CW _ _ _ _ _ _
  refine CW.seq ?_
  refine CW.region ?_
  refine RW.newP (cs := #[.slice none 0 0]) (T := 24) rfl rfl rfl (Yv.alloc (z := .agg #[.slice none 0 0]) rfl zero24) ?_
  intro b2 w2 N2
  have ne1 := New.ne N2 N1.blk
  have lo_b2 : w.heap.size ≤ b2 := by have := hB1.size; have := N2.num; omega
  have hn_b2 := N2.num
  have hs_b2 := N2.size
  have hB2 := Bl.step hB1 N2.below
  have hK1 := Blk.below N1.blk N2.below
  refine RW.nil ?_
  change CW _ _ _ _ _ _
  refine CW.seq ?_
  refine CW.seq ?_
  refine CW.region ?_
  refine RW.yl rfl rfl rfl (Yl.move rfl rfl) ?_
  refine RW.yl rfl rfl rfl (Yl.move rfl rfl) ?_
  refine RW.nil ?_
  change CW _ _ _ _ _ _
  refine CW.block ?_
  have hO1 := Own.nil w2 w.heap.size 31
  have hC1 : OAll 3 w.heap.size w2.heap.size w2 [] (tab 0 C f) := OAll.nil
  refine CW.loop3 (fun (k : Nat) (v : Value) (xs : List Value) => [(1, .int .i64 ((C : Nat) : Int)), (2, .func (.func 51) #[] #[q0, q1, q2, q3, q4, q5]), (6, .pointer (some ⟨b1, 0, none⟩)), (7, .pointer (some ⟨b2, 0, none⟩)), (11, .int .i64 ((R : Nat) : Int)), (12, .int .i64 ((k : Nat) : Int))]) (fun k v xs gm W => (gm = R - k) ∧ (k ≤ R) ∧ (xs.length = k) ∧ (Below w.heap.size w W) ∧ (Blk W b1 #[.slice none 0 0] 24) ∧ (Blk W b2 #[v] 24) ∧ (Own W w.heap.size 31 v xs) ∧ (OAll 3 w.heap.size W.heap.size W xs (tab k C f)) ∧ (w2.heap.size ≤ W.heap.size)) 0 (.slice none 0 0) ([]) (R - 0) ⟨rfl, (by first | assumption | omega | rfl | (simp only [List.length_append, List.length_cons, List.length_nil]; omega)), (by first | assumption | omega | rfl | (simp only [List.length_append, List.length_cons, List.length_nil]; omega)), hB2, hK1, N2.blk, hO1, (hC1.wide (by omega)), (by omega)⟩ (Sub.cons rfl (Sub.cons rfl (Sub.cons rfl (Sub.cons rfl (Sub.cons rfl (Sub.cons rfl (Sub.nil))))))) ?_
  intro k v xs gm1 w3 hinv
  obtain ⟨hm1, hi1, hi2, hB3, hK2, hK3, hO2, hC2, hz1⟩ := hinv
  change CW _ _ _ _ [(1, .int .i64 ((C : Nat) : Int)), (2, .func (.func 51) #[] #[q0, q1, q2, q3, q4, q5]), (6, .pointer (some ⟨b1, 0, none⟩)), (7, .pointer (some ⟨b2, 0, none⟩)), (11, .int .i64 ((R : Nat) : Int)), (12, .int .i64 ((k : Nat) : Int))] _
  obtain ⟨pv, nv, cv, rfl⟩ := hO2.form
  refine CW.seq ?_
  refine CW.region ?_
  refine RW.yl rfl rfl rfl (Yl.lss rfl rfl rfl) ?_
  refine RW.nil ?_
  change CW _ _ _ _ _ _
  refine CW.seq ?_
  refine CW.cond rfl ?_ ?_
  ·
    intro hg1
    have hq2 := of_decide_eq_true hg1
    first
    | (exfalso; omega)
    | (
      refine CW.skip ?_
      change CW _ _ _ _ _ _
      refine CW.seq ?_
      refine CW.block ?_
      refine CW.seq ?_
      refine CW.region ?_
      refine RW.yl rfl rfl rfl (Yl.move rfl rfl) ?_
      refine RW.yl rfl rfl rfl (Yl.assign rfl rfl) ?_
      refine RW.nil ?_
      change CW _ _ _ _ _ _
      refine CW.seq ?_
      refine CW.region ?_
      refine RW.yl rfl rfl rfl (Yl.move rfl rfl) ?_
      refine RW.newS (cs := Array.replicate C (.int .i64 0)) (T := 3) (l := C) (c := C) rfl rfl rfl (Yv.make (k := C) rfl rfl rfl rfl Try.underlying31 mk3 rfl (by omega)) ?_
      intro b3 w4 N3
      have ne2 := New.ne N3 hK2
      have ne3 := New.ne N3 hK3
      have lo_b3 : w.heap.size ≤ b3 := by have := hB3.size; have := N3.num; omega
      have hn_b3 := N3.num
      have hs_b3 := N3.size
      have hB4 := Bl.step hB3 N3.below
      have hK4 := Blk.below hK2 N3.below
      have hK5 := Blk.below hK3 N3.below
      have hO3 := Own.below hO2 N3.below
      have hC3 := hC2.below N3.below
      refine RW.yl rfl rfl rfl (Yl.assign rfl rfl) ?_
      refine RW.nil ?_
      change CW _ _ _ _ _ _
      refine CW.seq ?_
      refine CW.seq ?_
      refine CW.region ?_
      refine RW.yl rfl rfl rfl (Yl.move rfl rfl) ?_
      refine RW.yl rfl rfl rfl (Yl.len rfl rfl Try.underlying31) ?_
      refine RW.yl rfl rfl rfl (Yl.move rfl rfl) ?_
      refine RW.nil ?_
      change CW _ _ _ _ _ _
      refine CW.block ?_
      refine CW.loop2 (fun (j : Nat) (cur : Array Value) => [(1, .int .i64 ((C : Nat) : Int)), (2, .func (.func 51) #[] #[q0, q1, q2, q3, q4, q5]), (6, .pointer (some ⟨b1, 0, none⟩)), (7, .pointer (some ⟨b2, 0, none⟩)), (8, .int .i64 ((k : Nat) : Int)), (9, .slice (some ⟨b3, 0, none⟩) C C), (11, .int .i64 ((R : Nat) : Int)), (12, .int .i64 ((k : Nat) : Int)), (13, .bool (decide (((k : Nat) : Int) < ((R : Nat) : Int)))), (14, .int .i64 ((k : Nat) : Int)), (15, .int .i64 ((C : Nat) : Int)), (16, .slice (some ⟨b3, 0, none⟩) C C), (17, .slice (some ⟨b3, 0, none⟩) C C), (18, .int .i64 ((C : Nat) : Int)), (19, .int .i64 ((j : Nat) : Int))]) (fun j cur gm W => (gm = C - j) ∧ (j ≤ C) ∧ (cur.size = C) ∧ (∀ i, i < j → cur[i]? = some (.int .i64 (f k i))) ∧ (Below w.heap.size w W) ∧ (Blk W b1 #[.slice none 0 0] 24) ∧ (Blk W b2 #[.slice pv nv cv] 24) ∧ (Blk W b3 cur 3) ∧ (Own W w.heap.size 31 (.slice pv nv cv) xs) ∧ (OAll 3 w.heap.size w3.heap.size W xs (tab k C f)) ∧ (w4.heap.size ≤ W.heap.size)) 0 (Array.replicate C (.int .i64 0)) (C - 0) ⟨rfl, (by first | assumption | omega | rfl | (first | exact Array.size_replicate | (intro i hi; omega) | exact size_set (by assumption) | exact fill_next (g := fun i => .int .i64 (f k i)) (by assumption) (by omega))), (by first | assumption | omega | rfl | (first | exact Array.size_replicate | (intro i hi; omega) | exact size_set (by assumption) | exact fill_next (g := fun i => .int .i64 (f k i)) (by assumption) (by omega))), (by first | assumption | omega | rfl | (first | exact Array.size_replicate | (intro i hi; omega) | exact size_set (by assumption) | exact fill_next (g := fun i => .int .i64 (f k i)) (by assumption) (by omega))), hB4, hK4, hK5, N3.blk, hO3, hC3, (by omega)⟩ (Sub.cons rfl (Sub.cons rfl (Sub.cons rfl (Sub.cons rfl (Sub.cons rfl (Sub.cons rfl (Sub.cons rfl (Sub.cons rfl (Sub.cons rfl (Sub.cons rfl (Sub.cons rfl (Sub.cons rfl (Sub.cons rfl (Sub.cons rfl (Sub.cons rfl (Sub.nil)))))))))))))))) ?_
      intro j cur gm2 w5 hinv
      obtain ⟨hm2, hi3, hi4, hi5, hB5, hK6, hK7, hK8, hO4, hC4, hz2⟩ := hinv
      change CW _ _ _ _ [(1, .int .i64 ((C : Nat) : Int)), (2, .func (.func 51) #[] #[q0, q1, q2, q3, q4, q5]), (6, .pointer (some ⟨b1, 0, none⟩)), (7, .pointer (some ⟨b2, 0, none⟩)), (8, .int .i64 ((k : Nat) : Int)), (9, .slice (some ⟨b3, 0, none⟩) C C), (11, .int .i64 ((R : Nat) : Int)), (12, .int .i64 ((k : Nat) : Int)), (13, .bool (decide (((k : Nat) : Int) < ((R : Nat) : Int)))), (14, .int .i64 ((k : Nat) : Int)), (15, .int .i64 ((C : Nat) : Int)), (16, .slice (some ⟨b3, 0, none⟩) C C), (17, .slice (some ⟨b3, 0, none⟩) C C), (18, .int .i64 ((C : Nat) : Int)), (19, .int .i64 ((j : Nat) : Int))] _
      have hrowf := hi5
      refine CW.seq ?_
      refine CW.region ?_
      refine RW.yl rfl rfl rfl (Yl.lss rfl rfl rfl) ?_
      refine RW.nil ?_
      change CW _ _ _ _ _ _
      refine CW.seq ?_
      refine CW.cond rfl ?_ ?_
      ·
        intro hg2
        have hq4 := of_decide_eq_true hg2
        first
        | (exfalso; omega)
        | (
          refine CW.skip ?_
          change CW _ _ _ _ _ _
          refine CW.seq ?_
          refine CW.block ?_
          refine CW.seq ?_
          refine CW.region ?_
          refine RW.yl rfl rfl rfl (Yl.move rfl rfl) ?_
          refine RW.yl rfl rfl rfl (Yl.assign rfl rfl) ?_
          refine RW.nil ?_
          change CW _ _ _ _ _ _
          refine CW.region ?_
          refine RW.yl rfl rfl rfl (Yl.move rfl rfl) ?_
          refine RW.yl rfl rfl rfl (Yl.move rfl rfl) ?_
          refine RW.yl rfl rfl rfl (Yl.move rfl rfl) ?_
          refine RW.yl rfl rfl rfl (Yl.move rfl rfl) ?_
          refine RW.yl rfl rfl rfl (Yl.move rfl rfl) ?_
          refine RW.fn rfl rfl rfl (Yc.closure #[.int .i64 ((k : Nat) : Int), .int .i64 ((j : Nat) : Int), q0, q1, q2, q3, q4, q5] rfl rfl ok51 (capt (args2 rfl rfl) rfl)) (HC (x := k) (y := j) (by omega) (by omega) hB5) ?_
          rintro _ w6 ⟨rfl, H1⟩
          have hB6 := Bl.step hB5 H1
          have hK9 := Blk.below hK6 H1
          have hK10 := Blk.below hK7 H1
          have hK11 := Blk.below hK8 H1
          have hO5 := Own.below hO4 H1
          have hC5 := hC4.below H1
          have hz3 := H1.size
          refine RW.yl rfl rfl rfl (Yl.indexAddr1 (k := j) rfl rfl rfl Try.underlying31 sz3 rfl rfl (by omega)) ?_
          refine RW.sto (v := .int .i64 (f k j)) (i := 0 + j) rfl rfl hK11 (Yu.store rfl rfl rfl rfl rfl sz3 hK11 (by omega)) ?_
          intro w7 H2
          have hB7 := Bl.sto hB6 H2 lo_b3
          have hK12 := Blk.sto hK9 H2 ne2
          have hK13 := Blk.sto hK10 H2 ne3
          have hK14 := H2.blk
          have hO6 := Own.sto hO5 H2 hK11 (by decide)
          have hC6 := hC5.sto H2 (by omega)
          have hz4 := H2.size
          refine RW.nil ?_
          change CW _ _ _ _ _ _
          refine CW.region ?_
          refine RW.yl rfl rfl rfl (Yl.addN (a := j) (b := 1) rfl rfl rfl (by omega)) ?_
          refine RW.yl rfl rfl rfl (Yl.move rfl rfl) ?_
          refine RW.nil ?_
          refine ⟨(j + 1, (cur).setIfInBounds (0 + j) (.int .i64 (f k j))), C - (j + 1), by omega, ⟨rfl, (by first | assumption | omega | rfl | (first | exact Array.size_replicate | (intro i hi; omega) | exact size_set (by assumption) | exact fill_next (g := fun i => .int .i64 (f k i)) (by assumption) (by omega))), (by first | assumption | omega | rfl | (first | exact Array.size_replicate | (intro i hi; omega) | exact size_set (by assumption) | exact fill_next (g := fun i => .int .i64 (f k i)) (by assumption) (by omega))), (by first | assumption | omega | rfl | (first | exact Array.size_replicate | (intro i hi; omega) | exact size_set (by assumption) | exact fill_next (g := fun i => .int .i64 (f k i)) (by assumption) (by omega))), hB7, hK12, hK13, hK14, hO6, hC6, (by omega)⟩, Sub.cons rfl (Sub.cons rfl (Sub.cons rfl (Sub.cons rfl (Sub.cons rfl (Sub.cons rfl (Sub.cons rfl (Sub.cons rfl (Sub.cons rfl (Sub.cons rfl (Sub.cons rfl (Sub.cons rfl (Sub.cons rfl (Sub.cons rfl (Sub.cons rfl (Sub.nil)))))))))))))))⟩)
      ·
        intro hg3
        have hq6 := of_decide_eq_false hg3
        first
        | (exfalso; omega)
        | (
          refine CW.exit ?_
          change CW _ _ _ _ _ _
          refine CW.region ?_
          refine RW.yl rfl rfl rfl (Yl.fieldAddr rfl rfl Try.underlying24 rfl sz22) ?_
          refine RW.yl rfl rfl rfl (Yl.load rfl rfl one22 (Blk.cell hK7 rfl)) ?_
          refine RW.yl rfl rfl rfl (Yl.move rfl rfl) ?_
          refine RW.newS (cs := #[.slice (some ⟨b3, 0, none⟩) C C]) (T := 31) (l := 1) (c := 1) rfl rfl rfl (Yv.lit1 rfl rfl rfl Try.underlying22 mkx31) ?_
          intro b4 w8 N4
          have ne4 := New.ne N4 hK6
          have ne5 := New.ne N4 hK7
          have ne6 := New.ne N4 hK8
          have lo_b4 : w.heap.size ≤ b4 := by have := hB5.size; have := N4.num; omega
          have hn_b4 := N4.num
          have hs_b4 := N4.size
          have hB8 := Bl.step hB5 N4.below
          have hK15 := Blk.below hK6 N4.below
          have hK16 := Blk.below hK7 N4.below
          have hK17 := Blk.below hK8 N4.below
          have hO7 := Own.below hO4 N4.below
          have hC7 := hC4.below N4.below
          refine RW.app rfl rfl rfl (Yv.append (u := .slice (some ⟨b3, 0, none⟩) C C) rfl rfl rfl Try.underlying22 mkx31 hO7 N4.blk rfl (by first | omega | (simp only [List.length_map, List.length_range]; omega)) (by omega)) ?_
          intro v1 w9 A1
          have hB9 := Bl.app hB8 A1 hO7 (Nat.le_refl _)
          have hK18 := Blk.app hK15 A1 hO7 (by decide)
          have hK19 := Blk.app hK16 A1 hO7 (by decide)
          have hK20 := Blk.app hK17 A1 hO7 (by decide)
          have hC8 := hC7.app A1 hO7 (by decide)
          have hz5 := A1.grown.size
          obtain ⟨pv1, nv1, cv1, rfl⟩ := A1.own.form
          refine RW.yl rfl rfl rfl (Yl.fieldAddr rfl rfl Try.underlying24 rfl sz22) ?_
          refine RW.sto (v := .slice pv1 nv1 cv1) (i := 0) rfl rfl hK19 (Yu.store rfl rfl rfl rfl rfl sz22 hK19 (by simp)) ?_
          intro w10 H3
          have hB10 := Bl.sto hB9 H3 lo_b2
          have hK21 := Blk.sto hK18 H3 ne1
          have hK22 := H3.blk
          have hK23 := Blk.sto hK20 H3 ne3.symm
          have hO8 := Own.sto A1.own H3 hK19 (by decide)
          have hC9 := hC8.stoT H3 hK19 (by decide)
          have hz6 := H3.size
          refine RW.nil ?_
          change CW _ _ _ _ _ _
          refine CW.region ?_
          refine RW.yl rfl rfl rfl (Yl.addN (a := k) (b := 1) rfl rfl rfl (by omega)) ?_
          refine RW.yl rfl rfl rfl (Yl.move rfl rfl) ?_
          refine RW.nil ?_
          obtain rfl : C = j := by omega
          have hr1 : ORow 3 w.heap.size w10.heap.size w10 (.slice (some ⟨b3, 0, none⟩) C C) ((List.range C).map fun y => f k y) := ORow.of hK23 lo_b3 (by simp) (by omega) (fun i hi => by rw [get_range_map _ _ _ hi]; exact hrowf i hi)
          have hC10 := hC9.snoc hr1 (by omega)
          rw [← tab_succ] at hC10
          refine ⟨(k + 1, .slice pv1 nv1 cv1, xs ++ [.slice (some ⟨b3, 0, none⟩) C C]), R - (k + 1), by omega, ⟨rfl, (by first | assumption | omega | rfl | (simp only [List.length_append, List.length_cons, List.length_nil]; omega)), (by first | assumption | omega | rfl | (simp only [List.length_append, List.length_cons, List.length_nil]; omega)), hB10, hK21, hK22, hO8, (hC10.wide (by omega)), (by omega)⟩, Sub.cons rfl (Sub.cons rfl (Sub.cons rfl (Sub.cons rfl (Sub.cons rfl (Sub.cons rfl (Sub.nil))))))⟩))
  ·
    intro hg4
    have hq8 := of_decide_eq_false hg4
    first
    | (exfalso; omega)
    | (
      refine CW.exit ?_
      change CW _ _ _ _ _ _
      refine CW.seq ?_
      refine CW.region ?_
      refine RW.yl rfl rfl rfl (Yl.loadAgg (cs := [.slice pv nv cv]) rfl rfl many24 (Blk.cells hK3)) ?_
      refine RW.stoAll (cs' := #[.slice pv nv cv]) rfl rfl hK2 (Yu.storeAll rfl rfl rfl sz24 hK2 rfl (by simp [Value.oneCell'])) ?_
      intro w11 H4
      have hB11 := Bl.sto hB3 H4 lo_b1
      have hK24 := H4.blk
      have hK25 := Blk.sto hK3 H4 ne1.symm
      have hO9 := Own.sto hO2 H4 hK2 (by decide)
      have hC11 := hC2.stoT H4 hK2 (by decide)
      have hz7 := H4.size
      refine RW.nil ?_
      change CW _ _ _ _ _ _
      refine CW.ret ?_
      change FinQ _ _ _ _ _ _
      refine finC (.inr rfl) rfl rfl (run_loadVar_many (cs := [.slice pv nv cv]) many24 (Blk.cells hK24)) ?_
      obtain rfl : R = k := by omega
      exact ⟨_, rfl, _, rfl, RRows.ofOwn hO9 hC11 (by omega) (by rw [tab_length]; omega), hB11⟩)

theorem c43_53 {w : World} {R C : Nat} {f : Nat → Nat → Int} (HC : ∀ {W : World} {x y : Nat}, x < R → y < C → Below w.heap.size w W → Calls Try.prog 53 #[.int .i64 ((x : Nat) : Int), .int .i64 ((y : Nat) : Int)] W (Ret fun r w' => r = .int .i64 (f x y) ∧ Below W.heap.size W w')) (hR : R ≤ 1048576) (hC : C ≤ 1048576) :
    Calls Try.prog 43 #[.int .i64 ((R : Nat) : Int), .int .i64 ((C : Nat) : Int), .func (.func 53) #[] #[]] w (Ret fun r w' => ∃ s, r = .agg #[s] ∧ RRows w.heap.size w'.heap.size w' s (tab R C f) ∧ Below w.heap.size w w') := by
  have hB0 : Below w.heap.size w w := Below.refl _ _
  refine Ev.calls (l := [.int .i64 ((R : Nat) : Int), .int .i64 ((C : Nat) : Int), .func (.func 53) #[] #[]]) Try.func43 rfl rfl rfl ?_
  change CW _ _ _ _ [(0, .int .i64 ((R : Nat) : Int)), (1, .int .i64 ((C : Nat) : Int)), (2, .func (.func 53) #[] #[])] _
  refine CW.seq ?_
  refine CW.region ?_
  refine RW.newP (cs := #[.slice none 0 0]) (T := 24) rfl rfl rfl (Yv.alloc (z := .agg #[.slice none 0 0]) rfl zero24) ?_
  intro b1 w1 N1
  have lo_b1 : w.heap.size ≤ b1 := by have := hB0.size; have := N1.num; omega
  have hn_b1 := N1.num
  have hs_b1 := N1.size
  have hB1 := Bl.step hB0 N1.below
  refine RW.nil ?_
  change CW _ _ _ _ _ _
  refine CW.seq ?_
  refine CW.region ?_
  refine RW.newP (cs := #[.slice none 0 0]) (T := 24) rfl rfl rfl (Yv.alloc (z := .agg #[.slice none 0 0]) rfl zero24) ?_
  intro b2 w2 N2
  have ne1 := New.ne N2 N1.blk
  have lo_b2 : w.heap.size ≤ b2 := by have := hB1.size; have := N2.num; omega
  have hn_b2 := N2.num
  have hs_b2 := N2.size
  have hB2 := Bl.step hB1 N2.below
  have hK1 := Blk.below N1.blk N2.below
  refine RW.nil ?_
  change CW _ _ _ _ _ _
  refine CW.seq ?_
  refine CW.seq ?_
  refine CW.region ?_
  refine RW.yl rfl rfl rfl (Yl.move rfl rfl) ?_
  refine RW.yl rfl rfl rfl (Yl.move rfl rfl) ?_
  refine RW.nil ?_
  change CW _ _ _ _ _ _
  refine CW.block ?_
  have hO1 := Own.nil w2 w.heap.size 31
  have hC1 : OAll 3 w.heap.size w2.heap.size w2 [] (tab 0 C f) := OAll.nil
  refine CW.loop3 (fun (k : Nat) (v : Value) (xs : List Value) => [(1, .int .i64 ((C : Nat) : Int)), (2, .func (.func 53) #[] #[]), (6, .pointer (some ⟨b1, 0, none⟩)), (7, .pointer (some ⟨b2, 0, none⟩)), (11, .int .i64 ((R : Nat) : Int)), (12, .int .i64 ((k : Nat) : Int))]) (fun k v xs gm W => (gm = R - k) ∧ (k ≤ R) ∧ (xs.length = k) ∧ (Below w.heap.size w W) ∧ (Blk W b1 #[.slice none 0 0] 24) ∧ (Blk W b2 #[v] 24) ∧ (Own W w.heap.size 31 v xs) ∧ (OAll 3 w.heap.size W.heap.size W xs (tab k C f)) ∧ (w2.heap.size ≤ W.heap.size)) 0 (.slice none 0 0) ([]) (R - 0) ⟨rfl, (by first | assumption | omega | rfl | (simp only [List.length_append, List.length_cons, List.length_nil]; omega)), (by first | assumption | omega | rfl | (simp only [List.length_append, List.length_cons, List.length_nil]; omega)), hB2, hK1, N2.blk, hO1, (hC1.wide (by omega)), (by omega)⟩ (Sub.cons rfl (Sub.cons rfl (Sub.cons rfl (Sub.cons rfl (Sub.cons rfl (Sub.cons rfl (Sub.nil))))))) ?_
  intro k v xs gm1 w3 hinv
  obtain ⟨hm1, hi1, hi2, hB3, hK2, hK3, hO2, hC2, hz1⟩ := hinv
  change CW _ _ _ _ [(1, .int .i64 ((C : Nat) : Int)), (2, .func (.func 53) #[] #[]), (6, .pointer (some ⟨b1, 0, none⟩)), (7, .pointer (some ⟨b2, 0, none⟩)), (11, .int .i64 ((R : Nat) : Int)), (12, .int .i64 ((k : Nat) : Int))] _
  obtain ⟨pv, nv, cv, rfl⟩ := hO2.form
  refine CW.seq ?_
  refine CW.region ?_
  refine RW.yl rfl rfl rfl (Yl.lss rfl rfl rfl) ?_
  refine RW.nil ?_
  change CW _ _ _ _ _ _
  refine CW.seq ?_
  refine CW.cond rfl ?_ ?_
  ·
    intro hg1
    have hq2 := of_decide_eq_true hg1
    first
    | (exfalso; omega)
    | (
      refine CW.skip ?_
      change CW _ _ _ _ _ _
      refine CW.seq ?_
      refine CW.block ?_
      refine CW.seq ?_
      refine CW.region ?_
      refine RW.yl rfl rfl rfl (Yl.move rfl rfl) ?_
      refine RW.yl rfl rfl rfl (Yl.assign rfl rfl) ?_
      refine RW.nil ?_
      change CW _ _ _ _ _ _
      refine CW.seq ?_
      refine CW.region ?_
      refine RW.yl rfl rfl rfl (Yl.move rfl rfl) ?_
      refine RW.newS (cs := Array.replicate C (.int .i64 0)) (T := 3) (l := C) (c := C) rfl rfl rfl (Yv.make (k := C) rfl rfl rfl rfl Try.underlying31 mk3 rfl (by omega)) ?_
      intro b3 w4 N3
      have ne2 := New.ne N3 hK2
      have ne3 := New.ne N3 hK3
      have lo_b3 : w.heap.size ≤ b3 := by have := hB3.size; have := N3.num; omega
      have hn_b3 := N3.num
      have hs_b3 := N3.size
      have hB4 := Bl.step hB3 N3.below
      have hK4 := Blk.below hK2 N3.below
      have hK5 := Blk.below hK3 N3.below
      have hO3 := Own.below hO2 N3.below
      have hC3 := hC2.below N3.below
      refine RW.yl rfl rfl rfl (Yl.assign rfl rfl) ?_
      refine RW.nil ?_
      change CW _ _ _ _ _ _
      refine CW.seq ?_
      refine CW.seq ?_
      refine CW.region ?_
      refine RW.yl rfl rfl rfl (Yl.move rfl rfl) ?_
      refine RW.yl rfl rfl rfl (Yl.len rfl rfl Try.underlying31) ?_
      refine RW.yl rfl rfl rfl (Yl.move rfl rfl) ?_
      refine RW.nil ?_
      change CW _ _ _ _ _ _
      refine CW.block ?_
      refine CW.loop2 (fun (j : Nat) (cur : Array Value) => [(1, .int .i64 ((C : Nat) : Int)), (2, .func (.func 53) #[] #[]), (6, .pointer (some ⟨b1, 0, none⟩)), (7, .pointer (some ⟨b2, 0, none⟩)), (8, .int .i64 ((k : Nat) : Int)), (9, .slice (some ⟨b3, 0, none⟩) C C), (11, .int .i64 ((R : Nat) : Int)), (12, .int .i64 ((k : Nat) : Int)), (13, .bool (decide (((k : Nat) : Int) < ((R : Nat) : Int)))), (14, .int .i64 ((k : Nat) : Int)), (15, .int .i64 ((C : Nat) : Int)), (16, .slice (some ⟨b3, 0, none⟩) C C), (17, .slice (some ⟨b3, 0, none⟩) C C), (18, .int .i64 ((C : Nat) : Int)), (19, .int .i64 ((j : Nat) : Int))]) (fun j cur gm W => (gm = C - j) ∧ (j ≤ C) ∧ (cur.size = C) ∧ (∀ i, i < j → cur[i]? = some (.int .i64 (f k i))) ∧ (Below w.heap.size w W) ∧ (Blk W b1 #[.slice none 0 0] 24) ∧ (Blk W b2 #[.slice pv nv cv] 24) ∧ (Blk W b3 cur 3) ∧ (Own W w.heap.size 31 (.slice pv nv cv) xs) ∧ (OAll 3 w.heap.size w3.heap.size W xs (tab k C f)) ∧ (w4.heap.size ≤ W.heap.size)) 0 (Array.replicate C (.int .i64 0)) (C - 0) ⟨rfl, (by first | assumption | omega | rfl | (first | exact Array.size_replicate | (intro i hi; omega) | exact size_set (by assumption) | exact fill_next (g := fun i => .int .i64 (f k i)) (by assumption) (by omega))), (by first | assumption | omega | rfl | (first | exact Array.size_replicate | (intro i hi; omega) | exact size_set (by assumption) | exact fill_next (g := fun i => .int .i64 (f k i)) (by assumption) (by omega))), (by first | assumption | omega | rfl | (first | exact Array.size_replicate | (intro i hi; omega) | exact size_set (by assumption) | exact fill_next (g := fun i => .int .i64 (f k i)) (by assumption) (by omega))), hB4, hK4, hK5, N3.blk, hO3, hC3, (by omega)⟩ (Sub.cons rfl (Sub.cons rfl (Sub.cons rfl (Sub.cons rfl (Sub.cons rfl (Sub.cons rfl (Sub.cons rfl (Sub.cons rfl (Sub.cons rfl (Sub.cons rfl (Sub.cons rfl (Sub.cons rfl (Sub.cons rfl (Sub.cons rfl (Sub.cons rfl (Sub.nil)))))))))))))))) ?_
      intro j cur gm2 w5 hinv
      obtain ⟨hm2, hi3, hi4, hi5, hB5, hK6, hK7, hK8, hO4, hC4, hz2⟩ := hinv
      change CW _ _ _ _ [(1, .int .i64 ((C : Nat) : Int)), (2, .func (.func 53) #[] #[]), (6, .pointer (some ⟨b1, 0, none⟩)), (7, .pointer (some ⟨b2, 0, none⟩)), (8, .int .i64 ((k : Nat) : Int)), (9, .slice (some ⟨b3, 0, none⟩) C C), (11, .int .i64 ((R : Nat) : Int)), (12, .int .i64 ((k : Nat) : Int)), (13, .bool (decide (((k : Nat) : Int) < ((R : Nat) : Int)))), (14, .int .i64 ((k : Nat) : Int)), (15, .int .i64 ((C : Nat) : Int)), (16, .slice (some ⟨b3, 0, none⟩) C C), (17, .slice (some ⟨b3, 0, none⟩) C C), (18, .int .i64 ((C : Nat) : Int)), (19, .int .i64 ((j : Nat) : Int))] _
      have hrowf := hi5
      refine CW.seq ?_
      refine CW.region ?_
      refine RW.yl rfl rfl rfl (Yl.lss rfl rfl rfl) ?_
      refine RW.nil ?_
      change CW _ _ _ _ _ _
      refine CW.seq ?_
      refine CW.cond rfl ?_ ?_
      ·
        intro hg2
        have hq4 := of_decide_eq_true hg2
        first
        | (exfalso; omega)
        | (
          refine CW.skip ?_
          change CW _ _ _ _ _ _
          refine CW.seq ?_
          refine CW.block ?_
          refine CW.seq ?_
          refine CW.region ?_
          refine RW.yl rfl rfl rfl (Yl.move rfl rfl) ?_
          refine RW.yl rfl rfl rfl (Yl.assign rfl rfl) ?_
          refine RW.nil ?_
          change CW _ _ _ _ _ _
          refine CW.region ?_
          refine RW.yl rfl rfl rfl (Yl.move rfl rfl) ?_
          refine RW.yl rfl rfl rfl (Yl.move rfl rfl) ?_
          refine RW.yl rfl rfl rfl (Yl.move rfl rfl) ?_
          refine RW.yl rfl rfl rfl (Yl.move rfl rfl) ?_
          refine RW.yl rfl rfl rfl (Yl.move rfl rfl) ?_
          refine RW.fn rfl rfl rfl (Yc.closure #[.int .i64 ((k : Nat) : Int), .int .i64 ((j : Nat) : Int)] rfl rfl ok53 (capt (args2 rfl rfl) rfl)) (HC (x := k) (y := j) (by omega) (by omega) hB5) ?_
          rintro _ w6 ⟨rfl, H1⟩
          have hB6 := Bl.step hB5 H1
          have hK9 := Blk.below hK6 H1
          have hK10 := Blk.below hK7 H1
          have hK11 := Blk.below hK8 H1
          have hO5 := Own.below hO4 H1
          have hC5 := hC4.below H1
          have hz3 := H1.size
          refine RW.yl rfl rfl rfl (Yl.indexAddr1 (k := j) rfl rfl rfl Try.underlying31 sz3 rfl rfl (by omega)) ?_
          refine RW.sto (v := .int .i64 (f k j)) (i := 0 + j) rfl rfl hK11 (Yu.store rfl rfl rfl rfl rfl sz3 hK11 (by omega)) ?_
          intro w7 H2
          have hB7 := Bl.sto hB6 H2 lo_b3
          have hK12 := Blk.sto hK9 H2 ne2
          have hK13 := Blk.sto hK10 H2 ne3
          have hK14 := H2.blk
          have hO6 := Own.sto hO5 H2 hK11 (by decide)
          have hC6 := hC5.sto H2 (by omega)
          have hz4 := H2.size
          refine RW.nil ?_
          change CW _ _ _ _ _ _
          refine CW.region ?_
          refine RW.yl rfl rfl rfl (Yl.addN (a := j) (b := 1) rfl rfl rfl (by omega)) ?_
          refine RW.yl rfl rfl rfl (Yl.move rfl rfl) ?_
          refine RW.nil ?_
          refine ⟨(j + 1, (cur).setIfInBounds (0 + j) (.int .i64 (f k j))), C - (j + 1), by omega, ⟨rfl, (by first | assumption | omega | rfl | (first | exact Array.size_replicate | (intro i hi; omega) | exact size_set (by assumption) | exact fill_next (g := fun i => .int .i64 (f k i)) (by assumption) (by omega))), (by first | assumption | omega | rfl | (first | exact Array.size_replicate | (intro i hi; omega) | exact size_set (by assumption) | exact fill_next (g := fun i => .int .i64 (f k i)) (by assumption) (by omega))), (by first | assumption | omega | rfl | (first | exact Array.size_replicate | (intro i hi; omega) | exact size_set (by assumption) | exact fill_next (g := fun i => .int .i64 (f k i)) (by assumption) (by omega))), hB7, hK12, hK13, hK14, hO6, hC6, (by omega)⟩, Sub.cons rfl (Sub.cons rfl (Sub.cons rfl (Sub.cons rfl (Sub.cons rfl (Sub.cons rfl (Sub.cons rfl (Sub.cons rfl (Sub.cons rfl (Sub.cons rfl (Sub.cons rfl (Sub.cons rfl (Sub.cons rfl (Sub.cons rfl (Sub.cons rfl (Sub.nil)))))))))))))))⟩)
      ·
        intro hg3
        have hq6 := of_decide_eq_false hg3
        first
        | (exfalso; omega)
        | (
          refine CW.exit ?_
          change CW _ _ _ _ _ _
          refine CW.region ?_
          refine RW.yl rfl rfl rfl (Yl.fieldAddr rfl rfl Try.underlying24 rfl sz22) ?_
          refine RW.yl rfl rfl rfl (Yl.load rfl rfl one22 (Blk.cell hK7 rfl)) ?_
          refine RW.yl rfl rfl rfl (Yl.move rfl rfl) ?_
          refine RW.newS (cs := #[.slice (some ⟨b3, 0, none⟩) C C]) (T := 31) (l := 1) (c := 1) rfl rfl rfl (Yv.lit1 rfl rfl rfl Try.underlying22 mkx31) ?_
          intro b4 w8 N4
          have ne4 := New.ne N4 hK6
          have ne5 := New.ne N4 hK7
          have ne6 := New.ne N4 hK8
          have lo_b4 : w.heap.size ≤ b4 := by have := hB5.size; have := N4.num; omega
          have hn_b4 := N4.num
          have hs_b4 := N4.size
          have hB8 := Bl.step hB5 N4.below
          have hK15 := Blk.below hK6 N4.below
          have hK16 := Blk.below hK7 N4.below
          have hK17 := Blk.below hK8 N4.below
          have hO7 := Own.below hO4 N4.below
          have hC7 := hC4.below N4.below
          refine RW.app rfl rfl rfl (Yv.append (u := .slice (some ⟨b3, 0, none⟩) C C) rfl rfl rfl Try.underlying22 mkx31 hO7 N4.blk rfl (by first | omega | (simp only [List.length_map, List.length_range]; omega)) (by omega)) ?_
          intro v1 w9 A1
          have hB9 := Bl.app hB8 A1 hO7 (Nat.le_refl _)
          have hK18 := Blk.app hK15 A1 hO7 (by decide)
          have hK19 := Blk.app hK16 A1 hO7 (by decide)
          have hK20 := Blk.app hK17 A1 hO7 (by decide)
          have hC8 := hC7.app A1 hO7 (by decide)
          have hz5 := A1.grown.size
          obtain ⟨pv1, nv1, cv1, rfl⟩ := A1.own.form
          refine RW.yl rfl rfl rfl (Yl.fieldAddr rfl rfl Try.underlying24 rfl sz22) ?_
          refine RW.sto (v := .slice pv1 nv1 cv1) (i := 0) rfl rfl hK19 (Yu.store rfl rfl rfl rfl rfl sz22 hK19 (by simp)) ?_
          intro w10 H3
          have hB10 := Bl.sto hB9 H3 lo_b2
          have hK21 := Blk.sto hK18 H3 ne1
          have hK22 := H3.blk
          have hK23 := Blk.sto hK20 H3 ne3.symm
          have hO8 := Own.sto A1.own H3 hK19 (by decide)
          have hC9 := hC8.stoT H3 hK19 (by decide)
          have hz6 := H3.size
          refine RW.nil ?_
          change CW _ _ _ _ _ _
          refine CW.region ?_
          refine RW.yl rfl rfl rfl (Yl.addN (a := k) (b := 1) rfl rfl rfl (by omega)) ?_
          refine RW.yl rfl rfl rfl (Yl.move rfl rfl) ?_
          refine RW.nil ?_
          obtain rfl : C = j := by omega
          have hr1 : ORow 3 w.heap.size w10.heap.size w10 (.slice (some ⟨b3, 0, none⟩) C C) ((List.range C).map fun y => f k y) := ORow.of hK23 lo_b3 (by simp) (by omega) (fun i hi => by rw [get_range_map _ _ _ hi]; exact hrowf i hi)
          have hC10 := hC9.snoc hr1 (by omega)
          rw [← tab_succ] at hC10
          refine ⟨(k + 1, .slice pv1 nv1 cv1, xs ++ [.slice (some ⟨b3, 0, none⟩) C C]), R - (k + 1), by omega, ⟨rfl, (by first | assumption | omega | rfl | (simp only [List.length_append, List.length_cons, List.length_nil]; omega)), (by first | assumption | omega | rfl | (simp only [List.length_append, List.length_cons, List.length_nil]; omega)), hB10, hK21, hK22, hO8, (hC10.wide (by omega)), (by omega)⟩, Sub.cons rfl (Sub.cons rfl (Sub.cons rfl (Sub.cons rfl (Sub.cons rfl (Sub.cons rfl (Sub.nil))))))⟩))
  ·
    intro hg4
    have hq8 := of_decide_eq_false hg4
    first
    | (exfalso; omega)
    | (
      refine CW.exit ?_
      change CW _ _ _ _ _ _
      refine CW.seq ?_
      refine CW.region ?_
      refine RW.yl rfl rfl rfl (Yl.loadAgg (cs := [.slice pv nv cv]) rfl rfl many24 (Blk.cells hK3)) ?_
      refine RW.stoAll (cs' := #[.slice pv nv cv]) rfl rfl hK2 (Yu.storeAll rfl rfl rfl sz24 hK2 rfl (by simp [Value.oneCell'])) ?_
      intro w11 H4
      have hB11 := Bl.sto hB3 H4 lo_b1
      have hK24 := H4.blk
      have hK25 := Blk.sto hK3 H4 ne1.symm
      have hO9 := Own.sto hO2 H4 hK2 (by decide)
      have hC11 := hC2.stoT H4 hK2 (by decide)
      have hz7 := H4.size
      refine RW.nil ?_
      change CW _ _ _ _ _ _
      refine CW.ret ?_
      change FinQ _ _ _ _ _ _
      refine finC (.inr rfl) rfl rfl (run_loadVar_many (cs := [.slice pv nv cv]) many24 (Blk.cells hK24)) ?_
      obtain rfl : R = k := by omega
      exact ⟨_, rfl, _, rfl, RRows.ofOwn hO9 hC11 (by omega) (by rw [tab_length]; omega), hB11⟩)

theorem c43_55 {w : World} {R C : Nat} {q0 : Value} {q1 : Value} {q2 : Value} {q3 : Value} {q4 : Value} {q5 : Value} {q6 : Value} {f : Nat → Nat → Int} (HC : ∀ {W : World} {x y : Nat}, x < R → y < C → Below w.heap.size w W → Calls Try.prog 55 #[.int .i64 ((x : Nat) : Int), .int .i64 ((y : Nat) : Int), q0, q1, q2, q3, q4, q5, q6] W (Ret fun r w' => r = .int .i64 (f x y) ∧ Below W.heap.size W w')) (hR : R ≤ 1048576) (hC : C ≤ 1048576) :
    Calls Try.prog 43 #[.int .i64 ((R : Nat) : Int), .int .i64 ((C : Nat) : Int), .func (.func 55) #[] #[q0, q1, q2, q3, q4, q5, q6]] w (Ret fun r w' => ∃ s, r = .agg #[s] ∧ RRows w.heap.size w'.heap.size w' s (tab R C f) ∧ Below w.heap.size w w') := by
  have hB0 : Below w.heap.size w w := Below.refl _ _
  refine Ev.calls (l := [.int .i64 ((R : Nat) : Int), .int .i64 ((C : Nat) : Int), .func (.func 55) #[] #[q0, q1, q2, q3, q4, q5, q6]]) Try.func43 rfl rfl rfl ?_
  change CW _ _ _ _ [(0, .int .i64 ((R : Nat) : Int)), (1, .int .i64 ((C : Nat) : Int)), (2, .func (.func 55) #[] #[q0, q1, q2, q3, q4, q5, q6])] _
  refine CW.seq ?_
  refine CW.region ?_
  refine RW.newP (cs := #[.slice none 0 0]) (T := 24) rfl rfl rfl (Yv.alloc (z := .agg #[.slice none 0 0]) rfl zero24) ?_
  intro b1 w1 N1
  have lo_b1 : w.heap.size ≤ b1 := by have := hB0.size; have := N1.num; omega
  have hn_b1 := N1.num
  have hs_b1 := N1.size
  have hB1 := Bl.step hB0 N1.below
  refine RW.nil ?_
  change CW _ _ _ _ _ _
  refine CW.seq ?_
  refine CW.region ?_
  refine RW.newP (cs := #[.slice none 0 0]) (T := 24) rfl rfl rfl (Yv.alloc (z := .agg #[.slice none 0 0]) rfl zero24) ?_
  intro b2 w2 N2
  have ne1 := New.ne N2 N1.blk
  have lo_b2 : w.heap.size ≤ b2 := by have := hB1.size; have := N2.num; omega
  have hn_b2 := N2.num
  have hs_b2 := N2.size
  have hB2 := Bl.step hB1 N2.below
  have hK1 := Blk.below N1.blk N2.below
  refine RW.nil ?_
  change CW _ _ _ _ _ _
  refine CW.seq ?_
  refine CW.seq ?_
  refine CW.region ?_
  refine RW.yl rfl rfl rfl (Yl.move rfl rfl) ?_
  refine RW.yl rfl rfl rfl (Yl.move rfl rfl) ?_
  refine RW.nil ?_
  change CW _ _ _ _ _ _
  refine CW.block ?_
  have hO1 := Own.nil w2 w.heap.size 31
  have hC1 : OAll 3 w.heap.size w2.heap.size w2 [] (tab 0 C f) := OAll.nil
  refine CW.loop3 (fun (k : Nat) (v : Value) (xs : List Value) => [(1, .int .i64 ((C : Nat) : Int)), (2, .func (.func 55) #[] #[q0, q1, q2, q3, q4, q5, q6]), (6, .pointer (some ⟨b1, 0, none⟩)), (7, .pointer (some ⟨b2, 0, none⟩)), (11, .int .i64 ((R : Nat) : Int)), (12, .int .i64 ((k : Nat) : Int))]) (fun k v xs gm W => (gm = R - k) ∧ (k ≤ R) ∧ (xs.length = k) ∧ (Below w.heap.size w W) ∧ (Blk W b1 #[.slice none 0 0] 24) ∧ (Blk W b2 #[v] 24) ∧ (Own W w.heap.size 31 v xs) ∧ (OAll 3 w.heap.size W.heap.size W xs (tab k C f)) ∧ (w2.heap.size ≤ W.heap.size)) 0 (.slice none 0 0) ([]) (R - 0) ⟨rfl, (by first | assumption | omega | rfl | (simp only [List.length_append, List.length_cons, List.length_nil]; omega)), (by first | assumption | omega | rfl | (simp only [List.length_append, List.length_cons, List.length_nil]; omega)), hB2, hK1, N2.blk, hO1, (hC1.wide (by omega)), (by omega)⟩ (Sub.cons rfl (Sub.cons rfl (Sub.cons rfl (Sub.cons rfl (Sub.cons rfl (Sub.cons rfl (Sub.nil))))))) ?_
  intro k v xs gm1 w3 hinv
  obtain ⟨hm1, hi1, hi2, hB3, hK2, hK3, hO2, hC2, hz1⟩ := hinv
  change CW _ _ _ _ [(1, .int .i64 ((C : Nat) : Int)), (2, .func (.func 55) #[] #[q0, q1, q2, q3, q4, q5, q6]), (6, .pointer (some ⟨b1, 0, none⟩)), (7, .pointer (some ⟨b2, 0, none⟩)), (11, .int .i64 ((R : Nat) : Int)), (12, .int .i64 ((k : Nat) : Int))] _
  obtain ⟨pv, nv, cv, rfl⟩ := hO2.form
  refine CW.seq ?_
  refine CW.region ?_
  refine RW.yl rfl rfl rfl (Yl.lss rfl rfl rfl) ?_
  refine RW.nil ?_
  change CW _ _ _ _ _ _
  refine CW.seq ?_
  refine CW.cond rfl ?_ ?_
  ·
    intro hg1
    have hq2 := of_decide_eq_true hg1
    first
    | (exfalso; omega)
    | (
      refine CW.skip ?_
      change CW _ _ _ _ _ _
      refine CW.seq ?_
      refine CW.block ?_
      refine CW.seq ?_
      refine CW.region ?_
      refine RW.yl rfl rfl rfl (Yl.move rfl rfl) ?_
      refine RW.yl rfl rfl rfl (Yl.assign rfl rfl) ?_
      refine RW.nil ?_
      change CW _ _ _ _ _ _
      refine CW.seq ?_
      refine CW.region ?_
      refine RW.yl rfl rfl rfl (Yl.move rfl rfl) ?_
      refine RW.newS (cs := Array.replicate C (.int .i64 0)) (T := 3) (l := C) (c := C) rfl rfl rfl (Yv.make (k := C) rfl rfl rfl rfl Try.underlying31 mk3 rfl (by omega)) ?_
      intro b3 w4 N3
      have ne2 := New.ne N3 hK2
      have ne3 := New.ne N3 hK3
      have lo_b3 : w.heap.size ≤ b3 := by have := hB3.size; have := N3.num; omega
      have hn_b3 := N3.num
      have hs_b3 := N3.size
      have hB4 := Bl.step hB3 N3.below
      have hK4 := Blk.below hK2 N3.below
      have hK5 := Blk.below hK3 N3.below
      have hO3 := Own.below hO2 N3.below
      have hC3 := hC2.below N3.below
      refine RW.yl rfl rfl rfl (Yl.assign rfl rfl) ?_
      refine RW.nil ?_
      change CW _ _ _ _ _ _
      refine CW.seq ?_
      refine CW.seq ?_
      refine CW.region ?_
      refine RW.yl rfl rfl rfl (Yl.move rfl rfl) ?_
      refine RW.yl rfl rfl rfl (Yl.len rfl rfl Try.underlying31) ?_
      refine RW.yl rfl rfl rfl (Yl.move rfl rfl) ?_
      refine RW.nil ?_
      change CW _ _ _ _ _ _
      refine CW.block ?_
      refine CW.loop2 (fun (j : Nat) (cur : Array Value) => [(1, .int .i64 ((C : Nat) : Int)), (2, .func (.func 55) #[] #[q0, q1, q2, q3, q4, q5, q6]), (6, .pointer (some ⟨b1, 0, none⟩)), (7, .pointer (some ⟨b2, 0, none⟩)), (8, .int .i64 ((k : Nat) : Int)), (9, .slice (some ⟨b3, 0, none⟩) C C), (11, .int .i64 ((R : Nat) : Int)), (12, .int .i64 ((k : Nat) : Int)), (13, .bool (decide (((k : Nat) : Int) < ((R : Nat) : Int)))), (14, .int .i64 ((k : Nat) : Int)), (15, .int .i64 ((C : Nat) : Int)), (16, .slice (some ⟨b3, 0, none⟩) C C), (17, .slice (some ⟨b3, 0, none⟩) C C), (18, .int .i64 ((C : Nat) : Int)), (19, .int .i64 ((j : Nat) : Int))]) (fun j cur gm W => (gm = C - j) ∧ (j ≤ C) ∧ (cur.size = C) ∧ (∀ i, i < j → cur[i]? = some (.int .i64 (f k i))) ∧ (Below w.heap.size w W) ∧ (Blk W b1 #[.slice none 0 0] 24) ∧ (Blk W b2 #[.slice pv nv cv] 24) ∧ (Blk W b3 cur 3) ∧ (Own W w.heap.size 31 (.slice pv nv cv) xs) ∧ (OAll 3 w.heap.size w3.heap.size W xs (tab k C f)) ∧ (w4.heap.size ≤ W.heap.size)) 0 (Array.replicate C (.int .i64 0)) (C - 0) ⟨rfl, (by first | assumption | omega | rfl | (first | exact Array.size_replicate | (intro i hi; omega) | exact size_set (by assumption) | exact fill_next (g := fun i => .int .i64 (f k i)) (by assumption) (by omega))), (by first | assumption | omega | rfl | (first | exact Array.size_replicate | (intro i hi; omega) | exact size_set (by assumption) | exact fill_next (g := fun i => .int .i64 (f k i)) (by assumption) (by omega))), (by first | assumption | omega | rfl | (first | exact Array.size_replicate | (intro i hi; omega) | exact size_set (by assumption) | exact fill_next (g := fun i => .int .i64 (f k i)) (by assumption) (by omega))), hB4, hK4, hK5, N3.blk, hO3, hC3, (by omega)⟩ (Sub.cons rfl (Sub.cons rfl (Sub.cons rfl (Sub.cons rfl (Sub.cons rfl (Sub.cons rfl (Sub.cons rfl (Sub.cons rfl (Sub.cons rfl (Sub.cons rfl (Sub.cons rfl (Sub.cons rfl (Sub.cons rfl (Sub.cons rfl (Sub.cons rfl (Sub.nil)))))))))))))))) ?_
      intro j cur gm2 w5 hinv
      obtain ⟨hm2, hi3, hi4, hi5, hB5, hK6, hK7, hK8, hO4, hC4, hz2⟩ := hinv
      change CW _ _ _ _ [(1, .int .i64 ((C : Nat) : Int)), (2, .func (.func 55) #[] #[q0, q1, q2, q3, q4, q5, q6]), (6, .pointer (some ⟨b1, 0, none⟩)), (7, .pointer (some ⟨b2, 0, none⟩)), (8, .int .i64 ((k : Nat) : Int)), (9, .slice (some ⟨b3, 0, none⟩) C C), (11, .int .i64 ((R : Nat) : Int)), (12, .int .i64 ((k : Nat) : Int)), (13, .bool (decide (((k : Nat) : Int) < ((R : Nat) : Int)))), (14, .int .i64 ((k : Nat) : Int)), (15, .int .i64 ((C : Nat) : Int)), (16, .slice (some ⟨b3, 0, none⟩) C C), (17, .slice (some ⟨b3, 0, none⟩) C C), (18, .int .i64 ((C : Nat) : Int)), (19, .int .i64 ((j : Nat) : Int))] _
      have hrowf := hi5
      refine CW.seq ?_
      refine CW.region ?_
      refine RW.yl rfl rfl rfl (Yl.lss rfl rfl rfl) ?_
      refine RW.nil ?_
      change CW _ _ _ _ _ _
      refine CW.seq ?_
      refine CW.cond rfl ?_ ?_
      ·
        intro hg2
        have hq4 := of_decide_eq_true hg2
        first
        | (exfalso; omega)
        | (
          refine CW.skip ?_
          change CW _ _ _ _ _ _
          refine CW.seq ?_
          refine CW.block ?_
          refine CW.seq ?_
          refine CW.region ?_
          refine RW.yl rfl rfl rfl (Yl.move rfl rfl) ?_
          refine RW.yl rfl rfl rfl (Yl.assign rfl rfl) ?_
          refine RW.nil ?_
          change CW _ _ _ _ _ _
          refine CW.region ?_
          refine RW.yl rfl rfl rfl (Yl.move rfl rfl) ?_
          refine RW.yl rfl rfl rfl (Yl.move rfl rfl) ?_
          refine RW.yl rfl rfl rfl (Yl.move rfl rfl) ?_
          refine RW.yl rfl rfl rfl (Yl.move rfl rfl) ?_
          refine RW.yl rfl rfl rfl (Yl.move rfl rfl) ?_
          refine RW.fn rfl rfl rfl (Yc.closure #[.int .i64 ((k : Nat) : Int), .int .i64 ((j : Nat) : Int), q0, q1, q2, q3, q4, q5, q6] rfl rfl ok55 (capt (args2 rfl rfl) rfl)) (HC (x := k) (y := j) (by omega) (by omega) hB5) ?_
          rintro _ w6 ⟨rfl, H1⟩
          have hB6 := Bl.step hB5 H1
          have hK9 := Blk.below hK6 H1
          have hK10 := Blk.below hK7 H1
          have hK11 := Blk.below hK8 H1
          have hO5 := Own.below hO4 H1
          have hC5 := hC4.below H1
          have hz3 := H1.size
          refine RW.yl rfl rfl rfl (Yl.indexAddr1 (k := j) rfl rfl rfl Try.underlying31 sz3 rfl rfl (by omega)) ?_
          refine RW.sto (v := .int .i64 (f k j)) (i := 0 + j) rfl rfl hK11 (Yu.store rfl rfl rfl rfl rfl sz3 hK11 (by omega)) ?_
          intro w7 H2
          have hB7 := Bl.sto hB6 H2 lo_b3
          have hK12 := Blk.sto hK9 H2 ne2
          have hK13 := Blk.sto hK10 H2 ne3
          have hK14 := H2.blk
          have hO6 := Own.sto hO5 H2 hK11 (by decide)
          have hC6 := hC5.sto H2 (by omega)
          have hz4 := H2.size
          refine RW.nil ?_
          change CW _ _ _ _ _ _
          refine CW.region ?_
          refine RW.yl rfl rfl rfl (Yl.addN (a := j) (b := 1) rfl rfl rfl (by omega)) ?_
          refine RW.yl rfl rfl rfl (Yl.move rfl rfl) ?_
          refine RW.nil ?_
          refine ⟨(j + 1, (cur).setIfInBounds (0 + j) (.int .i64 (f k j))), C - (j + 1), by omega, ⟨rfl, (by first | assumption | omega | rfl | (first | exact Array.size_replicate | (intro i hi; omega) | exact size_set (by assumption) | exact fill_next (g := fun i => .int .i64 (f k i)) (by assumption) (by omega))), (by first | assumption | omega | rfl | (first | exact Array.size_replicate | (intro i hi; omega) | exact size_set (by assumption) | exact fill_next (g := fun i => .int .i64 (f k i)) (by assumption) (by omega))), (by first | assumption | omega | rfl | (first | exact Array.size_replicate | (intro i hi; omega) | exact size_set (by assumption) | exact fill_next (g := fun i => .int .i64 (f k i)) (by assumption) (by omega))), hB7, hK12, hK13, hK14, hO6, hC6, (by omega)⟩, Sub.cons rfl (Sub.cons rfl (Sub.cons rfl (Sub.cons rfl (Sub.cons rfl (Sub.cons rfl (Sub.cons rfl (Sub.cons rfl (Sub.cons rfl (Sub.cons rfl (Sub.cons rfl (Sub.cons rfl (Sub.cons rfl (Sub.cons rfl (Sub.cons rfl (Sub.nil)))))))))))))))⟩)
      ·
        intro hg3
        have hq6 := of_decide_eq_false hg3
        first
        | (exfalso; omega)
        | (
          refine CW.exit ?_
          change CW _ _ _ _ _ _
          refine CW.region ?_
          refine RW.yl rfl rfl rfl (Yl.fieldAddr rfl rfl Try.underlying24 rfl sz22) ?_
          refine RW.yl rfl rfl rfl (Yl.load rfl rfl one22 (Blk.cell hK7 rfl)) ?_
          refine RW.yl rfl rfl rfl (Yl.move rfl rfl) ?_
          refine RW.newS (cs := #[.slice (some ⟨b3, 0, none⟩) C C]) (T := 31) (l := 1) (c := 1) rfl rfl rfl (Yv.lit1 rfl rfl rfl Try.underlying22 mkx31) ?_
          intro b4 w8 N4
          have ne4 := New.ne N4 hK6
          have ne5 := New.ne N4 hK7
          have ne6 := New.ne N4 hK8
          have lo_b4 : w.heap.size ≤ b4 := by have := hB5.size; have := N4.num; omega
          have hn_b4 := N4.num
          have hs_b4 := N4.size
          have hB8 := Bl.step hB5 N4.below
          have hK15 := Blk.below hK6 N4.below
          have hK16 := Blk.below hK7 N4.below
          have hK17 := Blk.below hK8 N4.below
          have hO7 := Own.below hO4 N4.below
          have hC7 := hC4.below N4.below
          refine RW.app rfl rfl rfl (Yv.append (u := .slice (some ⟨b3, 0, none⟩) C C) rfl rfl rfl Try.underlying22 mkx31 hO7 N4.blk rfl (by first | omega | (simp only [List.length_map, List.length_range]; omega)) (by omega)) ?_
          intro v1 w9 A1
          have hB9 := Bl.app hB8 A1 hO7 (Nat.le_refl _)
          have hK18 := Blk.app hK15 A1 hO7 (by decide)
          have hK19 := Blk.app hK16 A1 hO7 (by decide)
          have hK20 := Blk.app hK17 A1 hO7 (by decide)
          have hC8 := hC7.app A1 hO7 (by decide)
          have hz5 := A1.grown.size
          obtain ⟨pv1, nv1, cv1, rfl⟩ := A1.own.form
          refine RW.yl rfl rfl rfl (Yl.fieldAddr rfl rfl Try.underlying24 rfl sz22) ?_
          refine RW.sto (v := .slice pv1 nv1 cv1) (i := 0) rfl rfl hK19 (Yu.store rfl rfl rfl rfl rfl sz22 hK19 (by simp)) ?_
          intro w10 H3
          have hB10 := Bl.sto hB9 H3 lo_b2
          have hK21 := Blk.sto hK18 H3 ne1
          have hK22 := H3.blk
          have hK23 := Blk.sto hK20 H3 ne3.symm
          have hO8 := Own.sto A1.own H3 hK19 (by decide)
          have hC9 := hC8.stoT H3 hK19 (by decide)
          have hz6 := H3.size
          refine RW.nil ?_
          change CW _ _ _ _ _ _
          refine CW.region ?_
          refine RW.yl rfl rfl rfl (Yl.addN (a := k) (b := 1) rfl rfl rfl (by omega)) ?_
          refine RW.yl rfl rfl rfl (Yl.move rfl rfl) ?_
          refine RW.nil ?_
          obtain rfl : C = j := by omega
          have hr1 : ORow 3 w.heap.size w10.heap.size w10 (.slice (some ⟨b3, 0, none⟩) C C) ((List.range C).map fun y => f k y) := ORow.of hK23 lo_b3 (by simp) (by omega) (fun i hi => by rw [get_range_map _ _ _ hi]; exact hrowf i hi)
          have hC10 := hC9.snoc hr1 (by omega)
          rw [← tab_succ] at hC10
          refine ⟨(k + 1, .slice pv1 nv1 cv1, xs ++ [.slice (some ⟨b3, 0, none⟩) C C]), R - (k + 1), by omega, ⟨rfl, (by first | assumption | omega | rfl | (simp only [List.length_append, List.length_cons, List.length_nil]; omega)), (by first | assumption | omega | rfl | (simp only [List.length_append, List.length_cons, List.length_nil]; omega)), hB10, hK21, hK22, hO8, (hC10.wide (by omega)), (by omega)⟩, Sub.cons rfl (Sub.cons rfl (Sub.cons rfl (Sub.cons rfl (Sub.cons rfl (Sub.cons rfl (Sub.nil))))))⟩))
  ·
    intro hg4
    have hq8 := of_decide_eq_false hg4
    first
    | (exfalso; omega)
    | (
      refine CW.exit ?_
      change CW _ _ _ _ _ _
      refine CW.seq ?_
      refine CW.region ?_
      refine RW.yl rfl rfl rfl (Yl.loadAgg (cs := [.slice pv nv cv]) rfl rfl many24 (Blk.cells hK3)) ?_
      refine RW.stoAll (cs' := #[.slice pv nv cv]) rfl rfl hK2 (Yu.storeAll rfl rfl rfl sz24 hK2 rfl (by simp [Value.oneCell'])) ?_
      intro w11 H4
      have hB11 := Bl.sto hB3 H4 lo_b1
      have hK24 := H4.blk
      have hK25 := Blk.sto hK3 H4 ne1.symm
      have hO9 := Own.sto hO2 H4 hK2 (by decide)
      have hC11 := hC2.stoT H4 hK2 (by decide)
      have hz7 := H4.size
      refine RW.nil ?_
      change CW _ _ _ _ _ _
      refine CW.ret ?_
      change FinQ _ _ _ _ _ _
      refine finC (.inr rfl) rfl rfl (run_loadVar_many (cs := [.slice pv nv cv]) many24 (Blk.cells hK24)) ?_
      obtain rfl : R = k := by omega
      exact ⟨_, rfl, _, rfl, RRows.ofOwn hO9 hC11 (by omega) (by rw [tab_length]; omega), hB11⟩)

theorem c27_28 {w : World} {R C : Nat} {q0 : Value} {q1 : Value} {q2 : Value} {q3 : Value} {f : Nat → Nat → Int} (HC : ∀ {W : World} {x y : Nat}, x < R → y < C → Below w.heap.size w W → Calls Try.prog 28 #[.int .i64 ((x : Nat) : Int), .int .i64 ((y : Nat) : Int), q0, q1, q2, q3] W (Ret fun r w' => r = .int .i64 (f x y) ∧ Below W.heap.size W w')) (hR : R ≤ 1048576) (hC : C ≤ 1048576) :
    Calls Try.prog 27 #[.int .i64 ((R : Nat) : Int), .int .i64 ((C : Nat) : Int), .func (.func 28) #[] #[q0, q1, q2, q3]] w (Ret fun r w' => ∃ s, r = .agg #[s] ∧ RRows w.heap.size w'.heap.size w' s (tab R C f) ∧ Below w.heap.size w w') := by
  have hB0 : Below w.heap.size w w := Below.refl _ _
  refine Ev.calls (l := [.int .i64 ((R : Nat) : Int), .int .i64 ((C : Nat) : Int), .func (.func 28) #[] #[q0, q1, q2, q3]]) Try.func27 rfl rfl rfl ?_
  change CW _ _ _ _ [(0, .int .i64 ((R : Nat) : Int)), (1, .int .i64 ((C : Nat) : Int)), (2, .func (.func 28) #[] #[q0, q1, q2, q3])] _
  refine CW.seq ?_
  refine CW.region ?_
  refine RW.newP (cs := #[.slice none 0 0]) (T := 24) rfl rfl rfl (Yv.alloc (z := .agg #[.slice none 0 0]) rfl zero24) ?_
  intro b1 w1 N1
  have lo_b1 : w.heap.size ≤ b1 := by have := hB0.size; have := N1.num; omega
  have hn_b1 := N1.num
  have hs_b1 := N1.size
  have hB1 := Bl.step hB0 N1.below
  refine RW.nil ?_
  change CW _ _ _ _ _ _
  refine CW.seq ?_
  refine CW.region ?_
  refine RW.newP (cs := #[.slice none 0 0]) (T := 24) rfl rfl rfl (Yv.alloc (z := .agg #[.slice none 0 0]) rfl zero24) ?_
  intro b2 w2 N2
  have ne1 := New.ne N2 N1.blk
  have lo_b2 : w.heap.size ≤ b2 := by have := hB1.size; have := N2.num; omega
  have hn_b2 := N2.num
  have hs_b2 := N2.size
  have hB2 := Bl.step hB1 N2.below
  have hK1 := Blk.below N1.blk N2.below
  refine RW.nil ?_
  change CW _ _ _ _ _ _
  refine CW.seq ?_
  refine CW.seq ?_
  refine CW.region ?_
  refine RW.yl rfl rfl rfl (Yl.move rfl rfl) ?_
  refine RW.yl rfl rfl rfl (Yl.move rfl rfl) ?_
  refine RW.nil ?_
  change CW _ _ _ _ _ _
  refine CW.block ?_
  have hO1 := Own.nil w2 w.heap.size 31
  have hC1 : OAll 3 w.heap.size w2.heap.size w2 [] (tab 0 C f) := OAll.nil
  refine CW.loop3 (fun (k : Nat) (v : Value) (xs : List Value) => [(1, .int .i64 ((C : Nat) : Int)), (2, .func (.func 28) #[] #[q0, q1, q2, q3]), (6, .pointer (some ⟨b1, 0, none⟩)), (7, .pointer (some ⟨b2, 0, none⟩)), (11, .int .i64 ((R : Nat) : Int)), (12, .int .i64 ((k : Nat) : Int))]) (fun k v xs gm W => (gm = R - k) ∧ (k ≤ R) ∧ (xs.length = k) ∧ (Below w.heap.size w W) ∧ (Blk W b1 #[.slice none 0 0] 24) ∧ (Blk W b2 #[v] 24) ∧ (Own W w.heap.size 31 v xs) ∧ (OAll 3 w.heap.size W.heap.size W xs (tab k C f)) ∧ (w2.heap.size ≤ W.heap.size)) 0 (.slice none 0 0) ([]) (R - 0) ⟨rfl, (by first | assumption | omega | rfl | (simp only [List.length_append, List.length_cons, List.length_nil]; omega)), (by first | assumption | omega | rfl | (simp only [List.length_append, List.length_cons, List.length_nil]; omega)), hB2, hK1, N2.blk, hO1, (hC1.wide (by omega)), (by omega)⟩ (Sub.cons rfl (Sub.cons rfl (Sub.cons rfl (Sub.cons rfl (Sub.cons rfl (Sub.cons rfl (Sub.nil))))))) ?_
  intro k v xs gm1 w3 hinv
  obtain ⟨hm1, hi1, hi2, hB3, hK2, hK3, hO2, hC2, hz1⟩ := hinv
  change CW _ _ _ _ [(1, .int .i64 ((C : Nat) : Int)), (2, .func (.func 28) #[] #[q0, q1, q2, q3]), (6, .pointer (some ⟨b1, 0, none⟩)), (7, .pointer (some ⟨b2, 0, none⟩)), (11, .int .i64 ((R : Nat) : Int)), (12, .int .i64 ((k : Nat) : Int))] _
  obtain ⟨pv, nv, cv, rfl⟩ := hO2.form
  refine CW.seq ?_
  refine CW.region ?_
  refine RW.yl rfl rfl rfl (Yl.lss rfl rfl rfl) ?_
  refine RW.nil ?_
  change CW _ _ _ _ _ _
  refine CW.seq ?_
  refine CW.cond rfl ?_ ?_
  ·
    intro hg1
    have hq2 := of_decide_eq_true hg1
    first
    | (exfalso; omega)
    | (
      refine CW.skip ?_
      change CW _ _ _ _ _ _
      refine CW.seq ?_
      refine CW.block ?_
      refine CW.seq ?_
      refine CW.region ?_
      refine RW.yl rfl rfl rfl (Yl.move rfl rfl) ?_
      refine RW.yl rfl rfl rfl (Yl.assign rfl rfl) ?_
      refine RW.nil ?_
      change CW _ _ _ _ _ _
      refine CW.seq ?_
      refine CW.region ?_
      refine RW.yl rfl rfl rfl (Yl.assign rfl rfl) ?_
      refine RW.nil ?_
      change CW _ _ _ _ _ _
      refine CW.seq ?_
      refine CW.seq ?_
      refine CW.region ?_
      refine RW.yl rfl rfl rfl (Yl.move rfl rfl) ?_
      refine RW.yl rfl rfl rfl (Yl.move rfl rfl) ?_
      refine RW.nil ?_
      change CW _ _ _ _ _ _
      refine CW.block ?_
      have hO3 := Own.nil w3 w3.heap.size 3
      refine CW.loop2 (fun (j : Nat) (rv : Value) => [(1, .int .i64 ((C : Nat) : Int)), (2, .func (.func 28) #[] #[q0, q1, q2, q3]), (6, .pointer (some ⟨b1, 0, none⟩)), (7, .pointer (some ⟨b2, 0, none⟩)), (8, .int .i64 ((k : Nat) : Int)), (9, rv), (11, .int .i64 ((R : Nat) : Int)), (12, .int .i64 ((k : Nat) : Int)), (13, .bool (decide (((k : Nat) : Int) < ((R : Nat) : Int)))), (14, .int .i64 ((k : Nat) : Int)), (15, .int .i64 ((C : Nat) : Int)), (16, .int .i64 ((j : Nat) : Int))]) (fun j rv gm W => (gm = C - j) ∧ (j ≤ C) ∧ (Below w.heap.size w W) ∧ (Blk W b1 #[.slice none 0 0] 24) ∧ (Blk W b2 #[.slice pv nv cv] 24) ∧ (Own W w.heap.size 31 (.slice pv nv cv) xs) ∧ (Own W w3.heap.size 3 rv (((List.range j).map fun y => f k y).map (.int .i64))) ∧ (OAll 3 w.heap.size w3.heap.size W xs (tab k C f)) ∧ (w3.heap.size ≤ W.heap.size)) 0 (.slice none 0 0) (C - 0) ⟨rfl, (by first | assumption | omega | rfl | omega), hB3, hK2, hK3, hO2, hO3, hC2, (by omega)⟩ (Sub.cons rfl (Sub.cons rfl (Sub.cons rfl (Sub.cons rfl (Sub.cons rfl (Sub.cons rfl (Sub.cons rfl (Sub.cons rfl (Sub.cons rfl (Sub.cons rfl (Sub.cons rfl (Sub.cons rfl (Sub.nil))))))))))))) ?_
      intro j rv gm2 w4 hinv
      obtain ⟨hm2, hi3, hB4, hK4, hK5, hO4, hO5, hC3, hz2⟩ := hinv
      change CW _ _ _ _ [(1, .int .i64 ((C : Nat) : Int)), (2, .func (.func 28) #[] #[q0, q1, q2, q3]), (6, .pointer (some ⟨b1, 0, none⟩)), (7, .pointer (some ⟨b2, 0, none⟩)), (8, .int .i64 ((k : Nat) : Int)), (9, rv), (11, .int .i64 ((R : Nat) : Int)), (12, .int .i64 ((k : Nat) : Int)), (13, .bool (decide (((k : Nat) : Int) < ((R : Nat) : Int)))), (14, .int .i64 ((k : Nat) : Int)), (15, .int .i64 ((C : Nat) : Int)), (16, .int .i64 ((j : Nat) : Int))] _
      obtain ⟨pr, nr, cr, rfl⟩ := hO5.form
      refine CW.seq ?_
      refine CW.region ?_
      refine RW.yl rfl rfl rfl (Yl.lss rfl rfl rfl) ?_
      refine RW.nil ?_
      change CW _ _ _ _ _ _
      refine CW.seq ?_
      refine CW.cond rfl ?_ ?_
      ·
        intro hg2
        have hq4 := of_decide_eq_true hg2
        first
        | (exfalso; omega)
        | (
          refine CW.skip ?_
          change CW _ _ _ _ _ _
          refine CW.seq ?_
          refine CW.block ?_
          refine CW.seq ?_
          refine CW.region ?_
          refine RW.yl rfl rfl rfl (Yl.move rfl rfl) ?_
          refine RW.yl rfl rfl rfl (Yl.assign rfl rfl) ?_
          refine RW.nil ?_
          change CW _ _ _ _ _ _
          refine CW.region ?_
          refine RW.yl rfl rfl rfl (Yl.move rfl rfl) ?_
          refine RW.yl rfl rfl rfl (Yl.move rfl rfl) ?_
          refine RW.yl rfl rfl rfl (Yl.move rfl rfl) ?_
          refine RW.yl rfl rfl rfl (Yl.move rfl rfl) ?_
          refine RW.fn rfl rfl rfl (Yc.closure #[.int .i64 ((k : Nat) : Int), .int .i64 ((j : Nat) : Int), q0, q1, q2, q3] rfl rfl ok28 (capt (args2 rfl rfl) rfl)) (HC (x := k) (y := j) (by omega) (by omega) hB4) ?_
          rintro _ w5 ⟨rfl, H1⟩
          have hB5 := Bl.step hB4 H1
          have hK6 := Blk.below hK4 H1
          have hK7 := Blk.below hK5 H1
          have hO6 := Own.below hO4 H1
          have hO7 := Own.below hO5 H1
          have hC4 := hC3.below H1
          have hz3 := H1.size
          refine RW.newS (cs := #[.int .i64 (f k j)]) (T := 3) (l := 1) (c := 1) rfl rfl rfl (Yv.lit1 rfl rfl rfl Try.underlying31 mkx3) ?_
          intro b3 w6 N3
          have ne2 := New.ne N3 hK6
          have ne3 := New.ne N3 hK7
          have lo_b3 : w.heap.size ≤ b3 := by have := hB5.size; have := N3.num; omega
          have hn_b3 := N3.num
          have hs_b3 := N3.size
          have hB6 := Bl.step hB5 N3.below
          have hK8 := Blk.below hK6 N3.below
          have hK9 := Blk.below hK7 N3.below
          have hO8 := Own.below hO6 N3.below
          have hO9 := Own.below hO7 N3.below
          have hC5 := hC4.below N3.below
          refine RW.app rfl rfl rfl (Yv.append (u := .int .i64 (f k j)) rfl rfl rfl Try.underlying31 mkx3 hO9 N3.blk rfl (by first | omega | (simp only [List.length_map, List.length_range]; omega)) (by omega)) ?_
          intro v1 w7 A1
          have hB7 := Bl.app hB6 A1 hO9 (by omega)
          have hK10 := Blk.app hK8 A1 hO9 (by decide)
          have hK11 := Blk.app hK9 A1 hO9 (by decide)
          have hO10 := Own.app hO8 A1 hO9 (by decide)
          have hC6 := hC5.appLo A1 hO9 (by omega)
          have hz4 := A1.grown.size
          obtain ⟨pv1, nv1, cv1, rfl⟩ := A1.own.form
          refine RW.yl rfl rfl rfl (Yl.assign rfl rfl) ?_
          refine RW.nil ?_
          change CW _ _ _ _ _ _
          refine CW.region ?_
          refine RW.yl rfl rfl rfl (Yl.addN (a := j) (b := 1) rfl rfl rfl (by omega)) ?_
          refine RW.yl rfl rfl rfl (Yl.move rfl rfl) ?_
          refine RW.nil ?_
          have hO11 : Own w7 w3.heap.size 3 (.slice pv1 nv1 cv1) (((List.range (j + 1)).map fun y => f k y).map (.int .i64)) := by rw [range_map_succ, List.map_append]; exact A1.own
          refine ⟨(j + 1, .slice pv1 nv1 cv1), C - (j + 1), by omega, ⟨rfl, (by first | assumption | omega | rfl | omega), hB7, hK10, hK11, hO10, hO11, hC6, (by omega)⟩, Sub.cons rfl (Sub.cons rfl (Sub.cons rfl (Sub.cons rfl (Sub.cons rfl (Sub.cons rfl (Sub.cons rfl (Sub.cons rfl (Sub.cons rfl (Sub.cons rfl (Sub.cons rfl (Sub.cons rfl (Sub.nil))))))))))))⟩)
      ·
        intro hg3
        have hq6 := of_decide_eq_false hg3
        first
        | (exfalso; omega)
        | (
          refine CW.exit ?_
          change CW _ _ _ _ _ _
          refine CW.region ?_
          refine RW.yl rfl rfl rfl (Yl.fieldAddr rfl rfl Try.underlying24 rfl sz22) ?_
          refine RW.yl rfl rfl rfl (Yl.load rfl rfl one22 (Blk.cell hK5 rfl)) ?_
          refine RW.yl rfl rfl rfl (Yl.move rfl rfl) ?_
          refine RW.newS (cs := #[.slice pr nr cr]) (T := 31) (l := 1) (c := 1) rfl rfl rfl (Yv.lit1 rfl rfl rfl Try.underlying22 mkx31) ?_
          intro b4 w8 N4
          have ne4 := New.ne N4 hK4
          have ne5 := New.ne N4 hK5
          have lo_b4 : w.heap.size ≤ b4 := by have := hB4.size; have := N4.num; omega
          have hn_b4 := N4.num
          have hs_b4 := N4.size
          have hB8 := Bl.step hB4 N4.below
          have hK12 := Blk.below hK4 N4.below
          have hK13 := Blk.below hK5 N4.below
          have hO12 := Own.below hO4 N4.below
          have hO13 := Own.below hO5 N4.below
          have hC7 := hC3.below N4.below
          refine RW.app rfl rfl rfl (Yv.append (u := .slice pr nr cr) rfl rfl rfl Try.underlying22 mkx31 hO12 N4.blk rfl (by first | omega | (simp only [List.length_map, List.length_range]; omega)) (by omega)) ?_
          intro v2 w9 A2
          have hB9 := Bl.app hB8 A2 hO12 (Nat.le_refl _)
          have hK14 := Blk.app hK12 A2 hO12 (by decide)
          have hK15 := Blk.app hK13 A2 hO12 (by decide)
          have hO14 := Own.app hO13 A2 hO12 (by decide)
          have hC8 := hC7.app A2 hO12 (by decide)
          have hz5 := A2.grown.size
          obtain ⟨pv2, nv2, cv2, rfl⟩ := A2.own.form
          refine RW.yl rfl rfl rfl (Yl.fieldAddr rfl rfl Try.underlying24 rfl sz22) ?_
          refine RW.sto (v := .slice pv2 nv2 cv2) (i := 0) rfl rfl hK15 (Yu.store rfl rfl rfl rfl rfl sz22 hK15 (by simp)) ?_
          intro w10 H2
          have hB10 := Bl.sto hB9 H2 lo_b2
          have hK16 := Blk.sto hK14 H2 ne1
          have hK17 := H2.blk
          have hO15 := Own.sto hO14 H2 hK15 (by decide)
          have hO16 := Own.sto A2.own H2 hK15 (by decide)
          have hC9 := hC8.stoT H2 hK15 (by decide)
          have hz6 := H2.size
          refine RW.nil ?_
          change CW _ _ _ _ _ _
          refine CW.region ?_
          refine RW.yl rfl rfl rfl (Yl.addN (a := k) (b := 1) rfl rfl rfl (by omega)) ?_
          refine RW.yl rfl rfl rfl (Yl.move rfl rfl) ?_
          refine RW.nil ?_
          obtain rfl : C = j := by omega
          have hr1 := (ORow.ofOwn (l := (List.range C).map fun y => f k y) hO15).lower (lo' := w.heap.size) (by omega)
          have hC10 := hC9.snoc hr1 (by omega)
          rw [← tab_succ] at hC10
          refine ⟨(k + 1, .slice pv2 nv2 cv2, xs ++ [.slice pr nr cr]), R - (k + 1), by omega, ⟨rfl, (by first | assumption | omega | rfl | (simp only [List.length_append, List.length_cons, List.length_nil]; omega)), (by first | assumption | omega | rfl | (simp only [List.length_append, List.length_cons, List.length_nil]; omega)), hB10, hK16, hK17, hO16, (hC10.wide (by omega)), (by omega)⟩, Sub.cons rfl (Sub.cons rfl (Sub.cons rfl (Sub.cons rfl (Sub.cons rfl (Sub.cons rfl (Sub.nil))))))⟩))
  ·
    intro hg4
    have hq8 := of_decide_eq_false hg4
    first
    | (exfalso; omega)
    | (
      refine CW.exit ?_
      change CW _ _ _ _ _ _
      refine CW.seq ?_
      refine CW.region ?_
      refine RW.yl rfl rfl rfl (Yl.loadAgg (cs := [.slice pv nv cv]) rfl rfl many24 (Blk.cells hK3)) ?_
      refine RW.stoAll (cs' := #[.slice pv nv cv]) rfl rfl hK2 (Yu.storeAll rfl rfl rfl sz24 hK2 rfl (by simp [Value.oneCell'])) ?_
      intro w11 H3
      have hB11 := Bl.sto hB3 H3 lo_b1
      have hK18 := H3.blk
      have hK19 := Blk.sto hK3 H3 ne1.symm
      have hO17 := Own.sto hO2 H3 hK2 (by decide)
      have hC11 := hC2.stoT H3 hK2 (by decide)
      have hz7 := H3.size
      refine RW.nil ?_
      change CW _ _ _ _ _ _
      refine CW.ret ?_
      change FinQ _ _ _ _ _ _
      refine finC (.inr rfl) rfl rfl (run_loadVar_many (cs := [.slice pv nv cv]) many24 (Blk.cells hK18)) ?_
      obtain rfl : R = k := by omega
      exact ⟨_, rfl, _, rfl, RRows.ofOwn hO17 hC11 (by omega) (by rw [tab_length]; omega), hB11⟩)

theorem c27_32 {w : World} {R C : Nat} {q0 : Value} {f : Nat → Nat → Int} (HC : ∀ {W : World} {x y : Nat}, x < R → y < C → Below w.heap.size w W → Calls Try.prog 32 #[.int .i64 ((x : Nat) : Int), .int .i64 ((y : Nat) : Int), q0] W (Ret fun r w' => r = .int .i64 (f x y) ∧ Below W.heap.size W w')) (hR : R ≤ 1048576) (hC : C ≤ 1048576) :
    Calls Try.prog 27 #[.int .i64 ((R : Nat) : Int), .int .i64 ((C : Nat) : Int), .func (.func 32) #[] #[q0]] w (Ret fun r w' => ∃ s, r = .agg #[s] ∧ RRows w.heap.size w'.heap.size w' s (tab R C f) ∧ Below w.heap.size w w') := by
  have hB0 : Below w.heap.size w w := Below.refl _ _
  refine Ev.calls (l := [.int .i64 ((R : Nat) : Int), .int .i64 ((C : Nat) : Int), .func (.func 32) #[] #[q0]]) Try.func27 rfl rfl rfl ?_
  change CW _ _ _ _ [(0, .int .i64 ((R : Nat) : Int)), (1, .int .i64 ((C : Nat) : Int)), (2, .func (.func 32) #[] #[q0])] _
  refine CW.seq ?_
  refine CW.region ?_
  refine RW.newP (cs := #[.slice none 0 0]) (T := 24) rfl rfl rfl (Yv.alloc (z := .agg #[.slice none 0 0]) rfl zero24) ?_
  intro b1 w1 N1
  have lo_b1 : w.heap.size ≤ b1 := by have := hB0.size; have := N1.num; omega
  have hn_b1 := N1.num
  have hs_b1 := N1.size
  have hB1 := Bl.step hB0 N1.below
  refine RW.nil ?_
  change CW _ _ _ _ _ _
  refine CW.seq ?_
  refine CW.region ?_
  refine RW.newP (cs := #[.slice none 0 0]) (T := 24) rfl rfl rfl (Yv.alloc (z := .agg #[.slice none 0 0]) rfl zero24) ?_
  intro b2 w2 N2
  have ne1 := New.ne N2 N1.blk
  have lo_b2 : w.heap.size ≤ b2 := by have := hB1.size; have := N2.num; omega
  have hn_b2 := N2.num
  have hs_b2 := N2.size
  have hB2 := Bl.step hB1 N2.below
  have hK1 := Blk.below N1.blk N2.below
  refine RW.nil ?_
  change CW _ _ _ _ _ _
  refine CW.seq ?_
  refine CW.seq ?_
  refine CW.region ?_
  refine RW.yl rfl rfl rfl (Yl.move rfl rfl) ?_
  refine RW.yl rfl rfl rfl (Yl.move rfl rfl) ?_
  refine RW.nil ?_
  change CW _ _ _ _ _ _
  refine CW.block ?_
  have hO1 := Own.nil w2 w.heap.size 31
  have hC1 : OAll 3 w.heap.size w2.heap.size w2 [] (tab 0 C f) := OAll.nil
  refine CW.loop3 (fun (k : Nat) (v : Value) (xs : List Value) => [(1, .int .i64 ((C : Nat) : Int)), (2, .func (.func 32) #[] #[q0]), (6, .pointer (some ⟨b1, 0, none⟩)), (7, .pointer (some ⟨b2, 0, none⟩)), (11, .int .i64 ((R : Nat) : Int)), (12, .int .i64 ((k : Nat) : Int))]) (fun k v xs gm W => (gm = R - k) ∧ (k ≤ R) ∧ (xs.length = k) ∧ (Below w.heap.size w W) ∧ (Blk W b1 #[.slice none 0 0] 24) ∧ (Blk W b2 #[v] 24) ∧ (Own W w.heap.size 31 v xs) ∧ (OAll 3 w.heap.size W.heap.size W xs (tab k C f)) ∧ (w2.heap.size ≤ W.heap.size)) 0 (.slice none 0 0) ([]) (R - 0) ⟨rfl, (by first | assumption | omega | rfl | (simp only [List.length_append, List.length_cons, List.length_nil]; omega)), (by first | assumption | omega | rfl | (simp only [List.length_append, List.length_cons, List.length_nil]; omega)), hB2, hK1, N2.blk, hO1, (hC1.wide (by omega)), (by omega)⟩ (Sub.cons rfl (Sub.cons rfl (Sub.cons rfl (Sub.cons rfl (Sub.cons rfl (Sub.cons rfl (Sub.nil))))))) ?_
  intro k v xs gm1 w3 hinv
  obtain ⟨hm1, hi1, hi2, hB3, hK2, hK3, hO2, hC2, hz1⟩ := hinv
  change CW _ _ _ _ [(1, .int .i64 ((C : Nat) : Int)), (2, .func (.func 32) #[] #[q0]), (6, .pointer (some ⟨b1, 0, none⟩)), (7, .pointer (some ⟨b2, 0, none⟩)), (11, .int .i64 ((R : Nat) : Int)), (12, .int .i64 ((k : Nat) : Int))] _
  obtain ⟨pv, nv, cv, rfl⟩ := hO2.form
  refine CW.seq ?_
  refine CW.region ?_
  refine RW.yl rfl rfl rfl (Yl.lss rfl rfl rfl) ?_
  refine RW.nil ?_
  change CW _ _ _ _ _ _
  refine CW.seq ?_
  refine CW.cond rfl ?_ ?_
  ·
    intro hg1
    have hq2 := of_decide_eq_true hg1
    first
    | (exfalso; omega)
    | (
      refine CW.skip ?_
      change CW _ _ _ _ _ _
      refine CW.seq ?_
      refine CW.block ?_
      refine CW.seq ?_
      refine CW.region ?_
      refine RW.yl rfl rfl rfl (Yl.move rfl rfl) ?_
      refine RW.yl rfl rfl rfl (Yl.assign rfl rfl) ?_
      refine RW.nil ?_
      change CW _ _ _ _ _ _
      refine CW.seq ?_
      refine CW.region ?_
      refine RW.yl rfl rfl rfl (Yl.assign rfl rfl) ?_
      refine RW.nil ?_
      change CW _ _ _ _ _ _
      refine CW.seq ?_
      refine CW.seq ?_
      refine CW.region ?_
      refine RW.yl rfl rfl rfl (Yl.move rfl rfl) ?_
      refine RW.yl rfl rfl rfl (Yl.move rfl rfl) ?_
      refine RW.nil ?_
      change CW _ _ _ _ _ _
      refine CW.block ?_
      have hO3 := Own.nil w3 w3.heap.size 3
      refine CW.loop2 (fun (j : Nat) (rv : Value) => [(1, .int .i64 ((C : Nat) : Int)), (2, .func (.func 32) #[] #[q0]), (6, .pointer (some ⟨b1, 0, none⟩)), (7, .pointer (some ⟨b2, 0, none⟩)), (8, .int .i64 ((k : Nat) : Int)), (9, rv), (11, .int .i64 ((R : Nat) : Int)), (12, .int .i64 ((k : Nat) : Int)), (13, .bool (decide (((k : Nat) : Int) < ((R : Nat) : Int)))), (14, .int .i64 ((k : Nat) : Int)), (15, .int .i64 ((C : Nat) : Int)), (16, .int .i64 ((j : Nat) : Int))]) (fun j rv gm W => (gm = C - j) ∧ (j ≤ C) ∧ (Below w.heap.size w W) ∧ (Blk W b1 #[.slice none 0 0] 24) ∧ (Blk W b2 #[.slice pv nv cv] 24) ∧ (Own W w.heap.size 31 (.slice pv nv cv) xs) ∧ (Own W w3.heap.size 3 rv (((List.range j).map fun y => f k y).map (.int .i64))) ∧ (OAll 3 w.heap.size w3.heap.size W xs (tab k C f)) ∧ (w3.heap.size ≤ W.heap.size)) 0 (.slice none 0 0) (C - 0) ⟨rfl, (by first | assumption | omega | rfl | omega), hB3, hK2, hK3, hO2, hO3, hC2, (by omega)⟩ (Sub.cons rfl (Sub.cons rfl (Sub.cons rfl (Sub.cons rfl (Sub.cons rfl (Sub.cons rfl (Sub.cons rfl (Sub.cons rfl (Sub.cons rfl (Sub.cons rfl (Sub.cons rfl (Sub.cons rfl (Sub.nil))))))))))))) ?_
      intro j rv gm2 w4 hinv
      obtain ⟨hm2, hi3, hB4, hK4, hK5, hO4, hO5, hC3, hz2⟩ := hinv
      change CW _ _ _ _ [(1, .int .i64 ((C : Nat) : Int)), (2, .func (.func 32) #[] #[q0]), (6, .pointer (some ⟨b1, 0, none⟩)), (7, .pointer (some ⟨b2, 0, none⟩)), (8, .int .i64 ((k : Nat) : Int)), (9, rv), (11, .int .i64 ((R : Nat) : Int)), (12, .int .i64 ((k : Nat) : Int)), (13, .bool (decide (((k : Nat) : Int) < ((R : Nat) : Int)))), (14, .int .i64 ((k : Nat) : Int)), (15, .int .i64 ((C : Nat) : Int)), (16, .int .i64 ((j : Nat) : Int))] _
      obtain ⟨pr, nr, cr, rfl⟩ := hO5.form
      refine CW.seq ?_
      refine CW.region ?_
      refine RW.yl rfl rfl rfl (Yl.lss rfl rfl rfl) ?_
      refine RW.nil ?_
      change CW _ _ _ _ _ _
      refine CW.seq ?_
      refine CW.cond rfl ?_ ?_
      ·
        intro hg2
        have hq4 := of_decide_eq_true hg2
        first
        | (exfalso; omega)
        | (
          refine CW.skip ?_
          change CW _ _ _ _ _ _
          refine CW.seq ?_
          refine CW.block ?_
          refine CW.seq ?_
          refine CW.region ?_
          refine RW.yl rfl rfl rfl (Yl.move rfl rfl) ?_
          refine RW.yl rfl rfl rfl (Yl.assign rfl rfl) ?_
          refine RW.nil ?_
          change CW _ _ _ _ _ _
          refine CW.region ?_
          refine RW.yl rfl rfl rfl (Yl.move rfl rfl) ?_
          refine RW.yl rfl rfl rfl (Yl.move rfl rfl) ?_
          refine RW.yl rfl rfl rfl (Yl.move rfl rfl) ?_
          refine RW.yl rfl rfl rfl (Yl.move rfl rfl) ?_
          refine RW.fn rfl rfl rfl (Yc.closure #[.int .i64 ((k : Nat) : Int), .int .i64 ((j : Nat) : Int), q0] rfl rfl ok32 (capt (args2 rfl rfl) rfl)) (HC (x := k) (y := j) (by omega) (by omega) hB4) ?_
          rintro _ w5 ⟨rfl, H1⟩
          have hB5 := Bl.step hB4 H1
          have hK6 := Blk.below hK4 H1
          have hK7 := Blk.below hK5 H1
          have hO6 := Own.below hO4 H1
          have hO7 := Own.below hO5 H1
          have hC4 := hC3.below H1
          have hz3 := H1.size
          refine RW.newS (cs := #[.int .i64 (f k j)]) (T := 3) (l := 1) (c := 1) rfl rfl rfl (Yv.lit1 rfl rfl rfl Try.underlying31 mkx3) ?_
          intro b3 w6 N3
          have ne2 := New.ne N3 hK6
          have ne3 := New.ne N3 hK7
          have lo_b3 : w.heap.size ≤ b3 := by have := hB5.size; have := N3.num; omega
          have hn_b3 := N3.num
          have hs_b3 := N3.size
          have hB6 := Bl.step hB5 N3.below
          have hK8 := Blk.below hK6 N3.below
          have hK9 := Blk.below hK7 N3.below
          have hO8 := Own.below hO6 N3.below
          have hO9 := Own.below hO7 N3.below
          have hC5 := hC4.below N3.below
          refine RW.app rfl rfl rfl (Yv.append (u := .int .i64 (f k j)) rfl rfl rfl Try.underlying31 mkx3 hO9 N3.blk rfl (by first | omega | (simp only [List.length_map, List.length_range]; omega)) (by omega)) ?_
          intro v1 w7 A1
          have hB7 := Bl.app hB6 A1 hO9 (by omega)
          have hK10 := Blk.app hK8 A1 hO9 (by decide)
          have hK11 := Blk.app hK9 A1 hO9 (by decide)
          have hO10 := Own.app hO8 A1 hO9 (by decide)
          have hC6 := hC5.appLo A1 hO9 (by omega)
          have hz4 := A1.grown.size
          obtain ⟨pv1, nv1, cv1, rfl⟩ := A1.own.form
          refine RW.yl rfl rfl rfl (Yl.assign rfl rfl) ?_
          refine RW.nil ?_
          change CW _ _ _ _ _ _
          refine CW.region ?_
          refine RW.yl rfl rfl rfl (Yl.addN (a := j) (b := 1) rfl rfl rfl (by omega)) ?_
          refine RW.yl rfl rfl rfl (Yl.move rfl rfl) ?_
          refine RW.nil ?_
          have hO11 : Own w7 w3.heap.size 3 (.slice pv1 nv1 cv1) (((List.range (j + 1)).map fun y => f k y).map (.int .i64)) := by rw [range_map_succ, List.map_append]; exact A1.own
          refine ⟨(j + 1, .slice pv1 nv1 cv1), C - (j + 1), by omega, ⟨rfl, (by first | assumption | omega | rfl | omega), hB7, hK10, hK11, hO10, hO11, hC6, (by omega)⟩, Sub.cons rfl (Sub.cons rfl (Sub.cons rfl (Sub.cons rfl (Sub.cons rfl (Sub.cons rfl (Sub.cons rfl (Sub.cons rfl (Sub.cons rfl (Sub.cons rfl (Sub.cons rfl (Sub.cons rfl (Sub.nil))))))))))))⟩)
      ·
        intro hg3
        have hq6 := of_decide_eq_false hg3
        first
        | (exfalso; omega)
        | (
          refine CW.exit ?_
          change CW _ _ _ _ _ _
          refine CW.region ?_
          refine RW.yl rfl rfl rfl (Yl.fieldAddr rfl rfl Try.underlying24 rfl sz22) ?_
          refine RW.yl rfl rfl rfl (Yl.load rfl rfl one22 (Blk.cell hK5 rfl)) ?_
          refine RW.yl rfl rfl rfl (Yl.move rfl rfl) ?_
          refine RW.newS (cs := #[.slice pr nr cr]) (T := 31) (l := 1) (c := 1) rfl rfl rfl (Yv.lit1 rfl rfl rfl Try.underlying22 mkx31) ?_
          intro b4 w8 N4
          have ne4 := New.ne N4 hK4
          have ne5 := New.ne N4 hK5
          have lo_b4 : w.heap.size ≤ b4 := by have := hB4.size; have := N4.num; omega
          have hn_b4 := N4.num
          have hs_b4 := N4.size
          have hB8 := Bl.step hB4 N4.below
          have hK12 := Blk.below hK4 N4.below
          have hK13 := Blk.below hK5 N4.below
          have hO12 := Own.below hO4 N4.below
          have hO13 := Own.below hO5 N4.below
          have hC7 := hC3.below N4.below
          refine RW.app rfl rfl rfl (Yv.append (u := .slice pr nr cr) rfl rfl rfl Try.underlying22 mkx31 hO12 N4.blk rfl (by first | omega | (simp only [List.length_map, List.length_range]; omega)) (by omega)) ?_
          intro v2 w9 A2
          have hB9 := Bl.app hB8 A2 hO12 (Nat.le_refl _)
          have hK14 := Blk.app hK12 A2 hO12 (by decide)
          have hK15 := Blk.app hK13 A2 hO12 (by decide)
          have hO14 := Own.app hO13 A2 hO12 (by decide)
          have hC8 := hC7.app A2 hO12 (by decide)
          have hz5 := A2.grown.size
          obtain ⟨pv2, nv2, cv2, rfl⟩ := A2.own.form
          refine RW.yl rfl rfl rfl (Yl.fieldAddr rfl rfl Try.underlying24 rfl sz22) ?_
          refine RW.sto (v := .slice pv2 nv2 cv2) (i := 0) rfl rfl hK15 (Yu.store rfl rfl rfl rfl rfl sz22 hK15 (by simp)) ?_
          intro w10 H2
          have hB10 := Bl.sto hB9 H2 lo_b2
          have hK16 := Blk.sto hK14 H2 ne1
          have hK17 := H2.blk
          have hO15 := Own.sto hO14 H2 hK15 (by decide)
          have hO16 := Own.sto A2.own H2 hK15 (by decide)
          have hC9 := hC8.stoT H2 hK15 (by decide)
          have hz6 := H2.size
          refine RW.nil ?_
          change CW _ _ _ _ _ _
          refine CW.region ?_
          refine RW.yl rfl rfl rfl (Yl.addN (a := k) (b := 1) rfl rfl rfl (by omega)) ?_
          refine RW.yl rfl rfl rfl (Yl.move rfl rfl) ?_
          refine RW.nil ?_
          obtain rfl : C = j := by omega
          have hr1 := (ORow.ofOwn (l := (List.range C).map fun y => f k y) hO15).lower (lo' := w.heap.size) (by omega)
          have hC10 := hC9.snoc hr1 (by omega)
          rw [← tab_succ] at hC10
          refine ⟨(k + 1, .slice pv2 nv2 cv2, xs ++ [.slice pr nr cr]), R - (k + 1), by omega, ⟨rfl, (by first | assumption | omega | rfl | (simp only [List.length_append, List.length_cons, List.length_nil]; omega)), (by first | assumption | omega | rfl | (simp only [List.length_append, List.length_cons, List.length_nil]; omega)), hB10, hK16, hK17, hO16, (hC10.wide (by omega)), (by omega)⟩, Sub.cons rfl (Sub.cons rfl (Sub.cons rfl (Sub.cons rfl (Sub.cons rfl (Sub.cons rfl (Sub.nil))))))⟩))
  ·
    intro hg4
    have hq8 := of_decide_eq_false hg4
    first
    | (exfalso; omega)
    | (
      refine CW.exit ?_
      change CW _ _ _ _ _ _
      refine CW.seq ?_
      refine CW.region ?_
      refine RW.yl rfl rfl rfl (Yl.loadAgg (cs := [.slice pv nv cv]) rfl rfl many24 (Blk.cells hK3)) ?_
      refine RW.stoAll (cs' := #[.slice pv nv cv]) rfl rfl hK2 (Yu.storeAll rfl rfl rfl sz24 hK2 rfl (by simp [Value.oneCell'])) ?_
      intro w11 H3
      have hB11 := Bl.sto hB3 H3 lo_b1
      have hK18 := H3.blk
      have hK19 := Blk.sto hK3 H3 ne1.symm
      have hO17 := Own.sto hO2 H3 hK2 (by decide)
      have hC11 := hC2.stoT H3 hK2 (by decide)
      have hz7 := H3.size
      refine RW.nil ?_
      change CW _ _ _ _ _ _
      refine CW.ret ?_
      change FinQ _ _ _ _ _ _
      refine finC (.inr rfl) rfl rfl (run_loadVar_many (cs := [.slice pv nv cv]) many24 (Blk.cells hK18)) ?_
      obtain rfl : R = k := by omega
      exact ⟨_, rfl, _, rfl, RRows.ofOwn hO17 hC11 (by omega) (by rw [tab_length]; omega), hB11⟩)

theorem c27_34 {w : World} {R C : Nat} {q0 : Value} {q1 : Value} {q2 : Value} {q3 : Value} {q4 : Value} {f : Nat → Nat → Int} (HC : ∀ {W : World} {x y : Nat}, x < R → y < C → Below w.heap.size w W → Calls Try.prog 34 #[.int .i64 ((x : Nat) : Int), .int .i64 ((y : Nat) : Int), q0, q1, q2, q3, q4] W (Ret fun r w' => r = .int .i64 (f x y) ∧ Below W.heap.size W w')) (hR : R ≤ 1048576) (hC : C ≤ 1048576) :
    Calls Try.prog 27 #[.int .i64 ((R : Nat) : Int), .int .i64 ((C : Nat) : Int), .func (.func 34) #[] #[q0, q1, q2, q3, q4]] w (Ret fun r w' => ∃ s, r = .agg #[s] ∧ RRows w.heap.size w'.heap.size w' s (tab R C f) ∧ Below w.heap.size w w') := by
  have hB0 : Below w.heap.size w w := Below.refl _ _
  refine Ev.calls (l := [.int .i64 ((R : Nat) : Int), .int .i64 ((C : Nat) : Int), .func (.func 34) #[] #[q0, q1, q2, q3, q4]]) Try.func27 rfl rfl rfl ?_
  change CW _ _ _ _ [(0, .int .i64 ((R : Nat) : Int)), (1, .int .i64 ((C : Nat) : Int)), (2, .func (.func 34) #[] #[q0, q1, q2, q3, q4])] _
  refine CW.seq ?_
  refine CW.region ?_
  refine RW.newP (cs := #[.slice none 0 0]) (T := 24) rfl rfl rfl (Yv.alloc (z := .agg #[.slice none 0 0]) rfl zero24) ?_
  intro b1 w1 N1
  have lo_b1 : w.heap.size ≤ b1 := by have := hB0.size; have := N1.num; omega
  have hn_b1 := N1.num
  have hs_b1 := N1.size
  have hB1 := Bl.step hB0 N1.below
  refine RW.nil ?_
  change CW _ _ _ _ _ _
  refine CW.seq ?_
  refine CW.region ?_
  refine RW.newP (cs := #[.slice none 0 0]) (T := 24) rfl rfl rfl (Yv.alloc (z := .agg #[.slice none 0 0]) rfl zero24) ?_
  intro b2 w2 N2
  have ne1 := New.ne N2 N1.blk
  have lo_b2 : w.heap.size ≤ b2 := by have := hB1.size; have := N2.num; omega
  have hn_b2 := N2.num
  have hs_b2 := N2.size
  have hB2 := Bl.step hB1 N2.below
  have hK1 := Blk.below N1.blk N2.below
  refine RW.nil ?_
  change CW _ _ _ _ _ _
  refine CW.seq ?_
  refine CW.seq ?_
  refine CW.region ?_
  refine RW.yl rfl rfl rfl (Yl.move rfl rfl) ?_
  refine RW.yl rfl rfl rfl (Yl.move rfl rfl) ?_
  refine RW.nil ?_
  change CW _ _ _ _ _ _
  refine CW.block ?_
  have hO1 := Own.nil w2 w.heap.size 31
  have hC1 : OAll 3 w.heap.size w2.heap.size w2 [] (tab 0 C f) := OAll.nil
  refine CW.loop3 (fun (k : Nat) (v : Value) (xs : List Value) => [(1, .int .i64 ((C : Nat) : Int)), (2, .func (.func 34) #[] #[q0, q1, q2, q3, q4]), (6, .pointer (some ⟨b1, 0, none⟩)), (7, .pointer (some ⟨b2, 0, none⟩)), (11, .int .i64 ((R : Nat) : Int)), (12, .int .i64 ((k : Nat) : Int))]) (fun k v xs gm W => (gm = R - k) ∧ (k ≤ R) ∧ (xs.length = k) ∧ (Below w.heap.size w W) ∧ (Blk W b1 #[.slice none 0 0] 24) ∧ (Blk W b2 #[v] 24) ∧ (Own W w.heap.size 31 v xs) ∧ (OAll 3 w.heap.size W.heap.size W xs (tab k C f)) ∧ (w2.heap.size ≤ W.heap.size)) 0 (.slice none 0 0) ([]) (R - 0) ⟨rfl, (by first | assumption | omega | rfl | (simp only [List.length_append, List.length_cons, List.length_nil]; omega)), (by first | assumption | omega | rfl | (simp only [List.length_append, List.length_cons, List.length_nil]; omega)), hB2, hK1, N2.blk, hO1, (hC1.wide (by omega)), (by omega)⟩ (Sub.cons rfl (Sub.cons rfl (Sub.cons rfl (Sub.cons rfl (Sub.cons rfl (Sub.cons rfl (Sub.nil))))))) ?_
  intro k v xs gm1 w3 hinv
  obtain ⟨hm1, hi1, hi2, hB3, hK2, hK3, hO2, hC2, hz1⟩ := hinv
  change CW _ _ _ _ [(1, .int .i64 ((C : Nat) : Int)), (2, .func (.func 34) #[] #[q0, q1, q2, q3, q4]), (6, .pointer (some ⟨b1, 0, none⟩)), (7, .pointer (some ⟨b2, 0, none⟩)), (11, .int .i64 ((R : Nat) : Int)), (12, .int .i64 ((k : Nat) : Int))] _
  obtain ⟨pv, nv, cv, rfl⟩ := hO2.form
  refine CW.seq ?_
  refine CW.region ?_
  refine RW.yl rfl rfl rfl (Yl.lss rfl rfl rfl) ?_
  refine RW.nil ?_
  change CW _ _ _ _ _ _
  refine CW.seq ?_
  refine CW.cond rfl ?_ ?_
  ·
    intro hg1
    have hq2 := of_decide_eq_true hg1
    first
    | (exfalso; omega)
    | (
      refine CW.skip ?_
      change CW _ _ _ _ _ _
      refine CW.seq ?_
      refine CW.block ?_
      refine CW.seq ?_
      refine CW.region ?_
      refine RW.yl rfl rfl rfl (Yl.move rfl rfl) ?_
      refine RW.yl rfl rfl rfl (Yl.assign rfl rfl) ?_
      refine RW.nil ?_
      change CW _ _ _ _ _ _
      refine CW.seq ?_
      refine CW.region ?_
      refine RW.yl rfl rfl rfl (Yl.assign rfl rfl) ?_
      refine RW.nil ?_
      change CW _ _ _ _ _ _
      refine CW.seq ?_
      refine CW.seq ?_
      refine CW.region ?_
      refine RW.yl rfl rfl rfl (Yl.move rfl rfl) ?_
      refine RW.yl rfl rfl rfl (Yl.move rfl rfl) ?_
      refine RW.nil ?_
      change CW _ _ _ _ _ _
      refine CW.block ?_
      have hO3 := Own.nil w3 w3.heap.size 3
      refine CW.loop2 (fun (j : Nat) (rv : Value) => [(1, .int .i64 ((C : Nat) : Int)), (2, .func (.func 34) #[] #[q0, q1, q2, q3, q4]), (6, .pointer (some ⟨b1, 0, none⟩)), (7, .pointer (some ⟨b2, 0, none⟩)), (8, .int .i64 ((k : Nat) : Int)), (9, rv), (11, .int .i64 ((R : Nat) : Int)), (12, .int .i64 ((k : Nat) : Int)), (13, .bool (decide (((k : Nat) : Int) < ((R : Nat) : Int)))), (14, .int .i64 ((k : Nat) : Int)), (15, .int .i64 ((C : Nat) : Int)), (16, .int .i64 ((j : Nat) : Int))]) (fun j rv gm W => (gm = C - j) ∧ (j ≤ C) ∧ (Below w.heap.size w W) ∧ (Blk W b1 #[.slice none 0 0] 24) ∧ (Blk W b2 #[.slice pv nv cv] 24) ∧ (Own W w.heap.size 31 (.slice pv nv cv) xs) ∧ (Own W w3.heap.size 3 rv (((List.range j).map fun y => f k y).map (.int .i64))) ∧ (OAll 3 w.heap.size w3.heap.size W xs (tab k C f)) ∧ (w3.heap.size ≤ W.heap.size)) 0 (.slice none 0 0) (C - 0) ⟨rfl, (by first | assumption | omega | rfl | omega), hB3, hK2, hK3, hO2, hO3, hC2, (by omega)⟩ (Sub.cons rfl (Sub.cons rfl (Sub.cons rfl (Sub.cons rfl (Sub.cons rfl (Sub.cons rfl (Sub.cons rfl (Sub.cons rfl (Sub.cons rfl (Sub.cons rfl (Sub.cons rfl (Sub.cons rfl (Sub.nil))))))))))))) ?_
      intro j rv gm2 w4 hinv
      obtain ⟨hm2, hi3, hB4, hK4, hK5, hO4, hO5, hC3, hz2⟩ := hinv
      change CW _ _ _ _ [(1, .int .i64 ((C : Nat) : Int)), (2, .func (.func 34) #[] #[q0, q1, q2, q3, q4]), (6, .pointer (some ⟨b1, 0, none⟩)), (7, .pointer (some ⟨b2, 0, none⟩)), (8, .int .i64 ((k : Nat) : Int)), (9, rv), (11, .int .i64 ((R : Nat) : Int)), (12, .int .i64 ((k : Nat) : Int)), (13, .bool (decide (((k : Nat) : Int) < ((R : Nat) : Int)))), (14, .int .i64 ((k : Nat) : Int)), (15, .int .i64 ((C : Nat) : Int)), (16, .int .i64 ((j : Nat) : Int))] _
      obtain ⟨pr, nr, cr, rfl⟩ := hO5.form
      refine CW.seq ?_
      refine CW.region ?_
      refine RW.yl rfl rfl rfl (Yl.lss rfl rfl rfl) ?_
      refine RW.nil ?_
      change CW _ _ _ _ _ _
      refine CW.seq ?_
      refine CW.cond rfl ?_ ?_
      ·
        intro hg2
        have hq4 := of_decide_eq_true hg2
        first
        | (exfalso; omega)
        | (
          refine CW.skip ?_
          change CW _ _ _ _ _ _
          refine CW.seq ?_
          refine CW.block ?_
          refine CW.seq ?_
          refine CW.region ?_
          refine RW.yl rfl rfl rfl (Yl.move rfl rfl) ?_
          refine RW.yl rfl rfl rfl (Yl.assign rfl rfl) ?_
          refine RW.nil ?_
          change CW _ _ _ _ _ _
          refine CW.region ?_
          refine RW.yl rfl rfl rfl (Yl.move rfl rfl) ?_
          refine RW.yl rfl rfl rfl (Yl.move rfl rfl) ?_
          refine RW.yl rfl rfl rfl (Yl.move rfl rfl) ?_
          refine RW.yl rfl rfl rfl (Yl.move rfl rfl) ?_
          refine RW.fn rfl rfl rfl (Yc.closure #[.int .i64 ((k : Nat) : Int), .int .i64 ((j : Nat) : Int), q0, q1, q2, q3, q4] rfl rfl ok34 (capt (args2 rfl rfl) rfl)) (HC (x := k) (y := j) (by omega) (by omega) hB4) ?_
          rintro _ w5 ⟨rfl, H1⟩
          have hB5 := Bl.step hB4 H1
          have hK6 := Blk.below hK4 H1
          have hK7 := Blk.below hK5 H1
          have hO6 := Own.below hO4 H1
          have hO7 := Own.below hO5 H1
          have hC4 := hC3.below H1
          have hz3 := H1.size
          refine RW.newS (cs := #[.int .i64 (f k j)]) (T := 3) (l := 1) (c := 1) rfl rfl rfl (Yv.lit1 rfl rfl rfl Try.underlying31 mkx3) ?_
          intro b3 w6 N3
          have ne2 := New.ne N3 hK6
          have ne3 := New.ne N3 hK7
          have lo_b3 : w.heap.size ≤ b3 := by have := hB5.size; have := N3.num; omega
          have hn_b3 := N3.num
          have hs_b3 := N3.size
          have hB6 := Bl.step hB5 N3.below
          have hK8 := Blk.below hK6 N3.below
          have hK9 := Blk.below hK7 N3.below
          have hO8 := Own.below hO6 N3.below
          have hO9 := Own.below hO7 N3.below
          have hC5 := hC4.below N3.below
          refine RW.app rfl rfl rfl (Yv.append (u := .int .i64 (f k j)) rfl rfl rfl Try.underlying31 mkx3 hO9 N3.blk rfl (by first | omega | (simp only [List.length_map, List.length_range]; omega)) (by omega)) ?_
          intro v1 w7 A1
          have hB7 := Bl.app hB6 A1 hO9 (by omega)
          have hK10 := Blk.app hK8 A1 hO9 (by decide)
          have hK11 := Blk.app hK9 A1 hO9 (by decide)
          have hO10 := Own.app hO8 A1 hO9 (by decide)
          have hC6 := hC5.appLo A1 hO9 (by omega)
          have hz4 := A1.grown.size
          obtain ⟨pv1, nv1, cv1, rfl⟩ := A1.own.form
          refine RW.yl rfl rfl rfl (Yl.assign rfl rfl) ?_
          refine RW.nil ?_
          change CW _ _ _ _ _ _
          refine CW.region ?_
          refine RW.yl rfl rfl rfl (Yl.addN (a := j) (b := 1) rfl rfl rfl (by omega)) ?_
          refine RW.yl rfl rfl rfl (Yl.move rfl rfl) ?_
          refine RW.nil ?_
          have hO11 : Own w7 w3.heap.size 3 (.slice pv1 nv1 cv1) (((List.range (j + 1)).map fun y => f k y).map (.int .i64)) := by rw [range_map_succ, List.map_append]; exact A1.own
          refine ⟨(j + 1, .slice pv1 nv1 cv1), C - (j + 1), by omega, ⟨rfl, (by first | assumption | omega | rfl | omega), hB7, hK10, hK11, hO10, hO11, hC6, (by omega)⟩, Sub.cons rfl (Sub.cons rfl (Sub.cons rfl (Sub.cons rfl (Sub.cons rfl (Sub.cons rfl (Sub.cons rfl (Sub.cons rfl (Sub.cons rfl (Sub.cons rfl (Sub.cons rfl (Sub.cons rfl (Sub.nil))))))))))))⟩)
      ·
        intro hg3
        have hq6 := of_decide_eq_false hg3
        first
        | (exfalso; omega)
        | (
          refine CW.exit ?_
          change CW _ _ _ _ _ _
          refine CW.region ?_
          refine RW.yl rfl rfl rfl (Yl.fieldAddr rfl rfl Try.underlying24 rfl sz22) ?_
          refine RW.yl rfl rfl rfl (Yl.load rfl rfl one22 (Blk.cell hK5 rfl)) ?_
          refine RW.yl rfl rfl rfl (Yl.move rfl rfl) ?_
          refine RW.newS (cs := #[.slice pr nr cr]) (T := 31) (l := 1) (c := 1) rfl rfl rfl (Yv.lit1 rfl rfl rfl Try.underlying22 mkx31) ?_
          intro b4 w8 N4
          have ne4 := New.ne N4 hK4
          have ne5 := New.ne N4 hK5
          have lo_b4 : w.heap.size ≤ b4 := by have := hB4.size; have := N4.num; omega
          have hn_b4 := N4.num
          have hs_b4 := N4.size
          have hB8 := Bl.step hB4 N4.below
          have hK12 := Blk.below hK4 N4.below
          have hK13 := Blk.below hK5 N4.below
          have hO12 := Own.below hO4 N4.below
          have hO13 := Own.below hO5 N4.below
          have hC7 := hC3.below N4.below
          refine RW.app rfl rfl rfl (Yv.append (u := .slice pr nr cr) rfl rfl rfl Try.underlying22 mkx31 hO12 N4.blk rfl (by first | omega | (simp only [List.length_map, List.length_range]; omega)) (by omega)) ?_
          intro v2 w9 A2
          have hB9 := Bl.app hB8 A2 hO12 (Nat.le_refl _)
          have hK14 := Blk.app hK12 A2 hO12 (by decide)
          have hK15 := Blk.app hK13 A2 hO12 (by decide)
          have hO14 := Own.app hO13 A2 hO12 (by decide)
          have hC8 := hC7.app A2 hO12 (by decide)
          have hz5 := A2.grown.size
          obtain ⟨pv2, nv2, cv2, rfl⟩ := A2.own.form
          refine RW.yl rfl rfl rfl (Yl.fieldAddr rfl rfl Try.underlying24 rfl sz22) ?_
          refine RW.sto (v := .slice pv2 nv2 cv2) (i := 0) rfl rfl hK15 (Yu.store rfl rfl rfl rfl rfl sz22 hK15 (by simp)) ?_
          intro w10 H2
          have hB10 := Bl.sto hB9 H2 lo_b2
          have hK16 := Blk.sto hK14 H2 ne1
          have hK17 := H2.blk
          have hO15 := Own.sto hO14 H2 hK15 (by decide)
          have hO16 := Own.sto A2.own H2 hK15 (by decide)
          have hC9 := hC8.stoT H2 hK15 (by decide)
          have hz6 := H2.size
          refine RW.nil ?_
          change CW _ _ _ _ _ _
          refine CW.region ?_
          refine RW.yl rfl rfl rfl (Yl.addN (a := k) (b := 1) rfl rfl rfl (by omega)) ?_
          refine RW.yl rfl rfl rfl (Yl.move rfl rfl) ?_
          refine RW.nil ?_
          obtain rfl : C = j := by omega
          have hr1 := (ORow.ofOwn (l := (List.range C).map fun y => f k y) hO15).lower (lo' := w.heap.size) (by omega)
          have hC10 := hC9.snoc hr1 (by omega)
          rw [← tab_succ] at hC10
          refine ⟨(k + 1, .slice pv2 nv2 cv2, xs ++ [.slice pr nr cr]), R - (k + 1), by omega, ⟨rfl, (by first | assumption | omega | rfl | (simp only [List.length_append, List.length_cons, List.length_nil]; omega)), (by first | assumption | omega | rfl | (simp only [List.length_append, List.length_cons, List.length_nil]; omega)), hB10, hK16, hK17, hO16, (hC10.wide (by omega)), (by omega)⟩, Sub.cons rfl (Sub.cons rfl (Sub.cons rfl (Sub.cons rfl (Sub.cons rfl (Sub.cons rfl (Sub.nil))))))⟩))
  ·
    intro hg4
    have hq8 := of_decide_eq_false hg4
    first
    | (exfalso; omega)
    | (
      refine CW.exit ?_
      change CW _ _ _ _ _ _
      refine CW.seq ?_
      refine CW.region ?_
      refine RW.yl rfl rfl rfl (Yl.loadAgg (cs := [.slice pv nv cv]) rfl rfl many24 (Blk.cells hK3)) ?_
      refine RW.stoAll (cs' := #[.slice pv nv cv]) rfl rfl hK2 (Yu.storeAll rfl rfl rfl sz24 hK2 rfl (by simp [Value.oneCell'])) ?_
      intro w11 H3
      have hB11 := Bl.sto hB3 H3 lo_b1
      have hK18 := H3.blk
      have hK19 := Blk.sto hK3 H3 ne1.symm
      have hO17 := Own.sto hO2 H3 hK2 (by decide)
      have hC11 := hC2.stoT H3 hK2 (by decide)
      have hz7 := H3.size
      refine RW.nil ?_
      change CW _ _ _ _ _ _
      refine CW.ret ?_
      change FinQ _ _ _ _ _ _
      refine finC (.inr rfl) rfl rfl (run_loadVar_many (cs := [.slice pv nv cv]) many24 (Blk.cells hK18)) ?_
      obtain rfl : R = k := by omega
      exact ⟨_, rfl, _, rfl, RRows.ofOwn hO17 hC11 (by omega) (by rw [tab_length]; omega), hB11⟩)

theorem c27_45 {w : World} {R C : Nat} {q0 : Value} {q1 : Value} {f : Nat → Nat → Int} (HC : ∀ {W : World} {x y : Nat}, x < R → y < C → Below w.heap.size w W → Calls Try.prog 45 #[.int .i64 ((x : Nat) : Int), .int .i64 ((y : Nat) : Int), q0, q1] W (Ret fun r w' => r = .int .i64 (f x y) ∧ Below W.heap.size W w')) (hR : R ≤ 1048576) (hC : C ≤ 1048576) :
    Calls Try.prog 27 #[.int .i64 ((R : Nat) : Int), .int .i64 ((C : Nat) : Int), .func (.func 45) #[] #[q0, q1]] w (Ret fun r w' => ∃ s, r = .agg #[s] ∧ RRows w.heap.size w'.heap.size w' s (tab R C f) ∧ Below w.heap.size w w') := by
  have hB0 : Below w.heap.size w w := Below.refl _ _
  refine Ev.calls (l := [.int .i64 ((R : Nat) : Int), .int .i64 ((C : Nat) : Int), .func (.func 45) #[] #[q0, q1]]) Try.func27 rfl rfl rfl ?_
  change CW _ _ _ _ [(0, .int .i64 ((R : Nat) : Int)), (1, .int .i64 ((C : Nat) : Int)), (2, .func (.func 45) #[] #[q0, q1])] _
  refine CW.seq ?_
  refine CW.region ?_
  refine RW.newP (cs := #[.slice none 0 0]) (T := 24) rfl rfl rfl (Yv.alloc (z := .agg #[.slice none 0 0]) rfl zero24) ?_
  intro b1 w1 N1
  have lo_b1 : w.heap.size ≤ b1 := by have := hB0.size; have := N1.num; omega
  have hn_b1 := N1.num
  have hs_b1 := N1.size
  have hB1 := Bl.step hB0 N1.below
  refine RW.nil ?_
  change CW _ _ _ _ _ _
  refine CW.seq ?_
  refine CW.region ?_
  refine RW.newP (cs := #[.slice none 0 0]) (T := 24) rfl rfl rfl (Yv.alloc (z := .agg #[.slice none 0 0]) rfl zero24) ?_
  intro b2 w2 N2
  have ne1 := New.ne N2 N1.blk
  have lo_b2 : w.heap.size ≤ b2 := by have := hB1.size; have := N2.num; omega
  have hn_b2 := N2.num
  have hs_b2 := N2.size
  have hB2 := Bl.step hB1 N2.below
  have hK1 := Blk.below N1.blk N2.below
  refine RW.nil ?_
  change CW _ _ _ _ _ _
  refine CW.seq ?_
  refine CW.seq ?_
  refine CW.region ?_
  refine RW.yl rfl rfl rfl (Yl.move rfl rfl) ?_
  refine RW.yl rfl rfl rfl (Yl.move rfl rfl) ?_
  refine RW.nil ?_
  change CW _ _ _ _ _ _
  refine CW.block ?_
  have hO1 := Own.nil w2 w.heap.size 31
  have hC1 : OAll 3 w.heap.size w2.heap.size w2 [] (tab 0 C f) := OAll.nil
  refine CW.loop3 (fun (k : Nat) (v : Value) (xs : List Value) => [(1, .int .i64 ((C : Nat) : Int)), (2, .func (.func 45) #[] #[q0, q1]), (6, .pointer (some ⟨b1, 0, none⟩)), (7, .pointer (some ⟨b2, 0, none⟩)), (11, .int .i64 ((R : Nat) : Int)), (12, .int .i64 ((k : Nat) : Int))]) (fun k v xs gm W => (gm = R - k) ∧ (k ≤ R) ∧ (xs.length = k) ∧ (Below w.heap.size w W) ∧ (Blk W b1 #[.slice none 0 0] 24) ∧ (Blk W b2 #[v] 24) ∧ (Own W w.heap.size 31 v xs) ∧ (OAll 3 w.heap.size W.heap.size W xs (tab k C f)) ∧ (w2.heap.size ≤ W.heap.size)) 0 (.slice none 0 0) ([]) (R - 0) ⟨rfl, (by first | assumption | omega | rfl | (simp only [List.length_append, List.length_cons, List.length_nil]; omega)), (by first | assumption | omega | rfl | (simp only [List.length_append, List.length_cons, List.length_nil]; omega)), hB2, hK1, N2.blk, hO1, (hC1.wide (by omega)), (by omega)⟩ (Sub.cons rfl (Sub.cons rfl (Sub.cons rfl (Sub.cons rfl (Sub.cons rfl (Sub.cons rfl (Sub.nil))))))) ?_
  intro k v xs gm1 w3 hinv
  obtain ⟨hm1, hi1, hi2, hB3, hK2, hK3, hO2, hC2, hz1⟩ := hinv
  change CW _ _ _ _ [(1, .int .i64 ((C : Nat) : Int)), (2, .func (.func 45) #[] #[q0, q1]), (6, .pointer (some ⟨b1, 0, none⟩)), (7, .pointer (some ⟨b2, 0, none⟩)), (11, .int .i64 ((R : Nat) : Int)), (12, .int .i64 ((k : Nat) : Int))] _
  obtain ⟨pv, nv, cv, rfl⟩ := hO2.form
  refine CW.seq ?_
  refine CW.region ?_
  refine RW.yl rfl rfl rfl (Yl.lss rfl rfl rfl) ?_
  refine RW.nil ?_
  change CW _ _ _ _ _ _
  refine CW.seq ?_
  refine CW.cond rfl ?_ ?_
  ·
    intro hg1
    have hq2 := of_decide_eq_true hg1
    first
    | (exfalso; omega)
    | (
      refine CW.skip ?_
      change CW _ _ _ _ _ _
      refine CW.seq ?_
      refine CW.block ?_
      refine CW.seq ?_
      refine CW.region ?_
      refine RW.yl rfl rfl rfl (Yl.move rfl rfl) ?_
      refine RW.yl rfl rfl rfl (Yl.assign rfl rfl) ?_
      refine RW.nil ?_
      change CW _ _ _ _ _ _
      refine CW.seq ?_
      refine CW.region ?_
      refine RW.yl rfl rfl rfl (Yl.assign rfl rfl) ?_
      refine RW.nil ?_
      change CW _ _ _ _ _ _
      refine CW.seq ?_
      refine CW.seq ?_
      refine CW.region ?_
      refine RW.yl rfl rfl rfl (Yl.move rfl rfl) ?_
      refine RW.yl rfl rfl rfl (Yl.move rfl rfl) ?_
      refine RW.nil ?_
      change CW _ _ _ _ _ _
      refine CW.block ?_
      have hO3 := Own.nil w3 w3.heap.size 3
      refine CW.loop2 (fun (j : Nat) (rv : Value) => [(1, .int .i64 ((C : Nat) : Int)), (2, .func (.func 45) #[] #[q0, q1]), (6, .pointer (some ⟨b1, 0, none⟩)), (7, .pointer (some ⟨b2, 0, none⟩)), (8, .int .i64 ((k : Nat) : Int)), (9, rv), (11, .int .i64 ((R : Nat) : Int)), (12, .int .i64 ((k : Nat) : Int)), (13, .bool (decide (((k : Nat) : Int) < ((R : Nat) : Int)))), (14, .int .i64 ((k : Nat) : Int)), (15, .int .i64 ((C : Nat) : Int)), (16, .int .i64 ((j : Nat) : Int))]) (fun j rv gm W => (gm = C - j) ∧ (j ≤ C) ∧ (Below w.heap.size w W) ∧ (Blk W b1 #[.slice none 0 0] 24) ∧ (Blk W b2 #[.slice pv nv cv] 24) ∧ (Own W w.heap.size 31 (.slice pv nv cv) xs) ∧ (Own W w3.heap.size 3 rv (((List.range j).map fun y => f k y).map (.int .i64))) ∧ (OAll 3 w.heap.size w3.heap.size W xs (tab k C f)) ∧ (w3.heap.size ≤ W.heap.size)) 0 (.slice none 0 0) (C - 0) ⟨rfl, (by first | assumption | omega | rfl | omega), hB3, hK2, hK3, hO2, hO3, hC2, (by omega)⟩ (Sub.cons rfl (Sub.cons rfl (Sub.cons rfl (Sub.cons rfl (Sub.cons rfl (Sub.cons rfl (Sub.cons rfl (Sub.cons rfl (Sub.cons rfl (Sub.cons rfl (Sub.cons rfl (Sub.cons rfl (Sub.nil))))))))))))) ?_
      intro j rv gm2 w4 hinv
      obtain ⟨hm2, hi3, hB4, hK4, hK5, hO4, hO5, hC3, hz2⟩ := hinv
      change CW _ _ _ _ [(1, .int .i64 ((C : Nat) : Int)), (2, .func (.func 45) #[] #[q0, q1]), (6, .pointer (some ⟨b1, 0, none⟩)), (7, .pointer (some ⟨b2, 0, none⟩)), (8, .int .i64 ((k : Nat) : Int)), (9, rv), (11, .int .i64 ((R : Nat) : Int)), (12, .int .i64 ((k : Nat) : Int)), (13, .bool (decide (((k : Nat) : Int) < ((R : Nat) : Int)))), (14, .int .i64 ((k : Nat) : Int)), (15, .int .i64 ((C : Nat) : Int)), (16, .int .i64 ((j : Nat) : Int))] _
      obtain ⟨pr, nr, cr, rfl⟩ := hO5.form
      refine CW.seq ?_
      refine CW.region ?_
      refine RW.yl rfl rfl rfl (Yl.lss rfl rfl rfl) ?_
      refine RW.nil ?_
      change CW _ _ _ _ _ _
      refine CW.seq ?_
      refine CW.cond rfl ?_ ?_
      ·
        intro hg2
        have hq4 := of_decide_eq_true hg2
        first
        | (exfalso; omega)
        | (
          refine CW.skip ?_
          change CW _ _ _ _ _ _
          refine CW.seq ?_
          refine CW.block ?_
          refine CW.seq ?_
          refine CW.region ?_
          refine RW.yl rfl rfl rfl (Yl.move rfl rfl) ?_
          refine RW.yl rfl rfl rfl (Yl.assign rfl rfl) ?_
          refine RW.nil ?_
          change CW _ _ _ _ _ _
          refine CW.region ?_
          refine RW.yl rfl rfl rfl (Yl.move rfl rfl) ?_
          refine RW.yl rfl rfl rfl (Yl.move rfl rfl) ?_
          refine RW.yl rfl rfl rfl (Yl.move rfl rfl) ?_
          refine RW.yl rfl rfl rfl (Yl.move rfl rfl) ?_
          refine RW.fn rfl rfl rfl (Yc.closure #[.int .i64 ((k : Nat) : Int), .int .i64 ((j : Nat) : Int), q0, q1] rfl rfl ok45 (capt (args2 rfl rfl) rfl)) (HC (x := k) (y := j) (by omega) (by omega) hB4) ?_
          rintro _ w5 ⟨rfl, H1⟩
          have hB5 := Bl.step hB4 H1
          have hK6 := Blk.below hK4 H1
          have hK7 := Blk.below hK5 H1
          have hO6 := Own.below hO4 H1
          have hO7 := Own.below hO5 H1
          have hC4 := hC3.below H1
          have hz3 := H1.size
          refine RW.newS (cs := #[.int .i64 (f k j)]) (T := 3) (l := 1) (c := 1) rfl rfl rfl (Yv.lit1 rfl rfl rfl Try.underlying31 mkx3) ?_
          intro b3 w6 N3
          have ne2 := New.ne N3 hK6
          have ne3 := New.ne N3 hK7
          have lo_b3 : w.heap.size ≤ b3 := by have := hB5.size; have := N3.num; omega
          have hn_b3 := N3.num
          have hs_b3 := N3.size
          have hB6 := Bl.step hB5 N3.below
          have hK8 := Blk.below hK6 N3.below
          have hK9 := Blk.below hK7 N3.below
          have hO8 := Own.below hO6 N3.below
          have hO9 := Own.below hO7 N3.below
          have hC5 := hC4.below N3.below
          refine RW.app rfl rfl rfl (Yv.append (u := .int .i64 (f k j)) rfl rfl rfl Try.underlying31 mkx3 hO9 N3.blk rfl (by first | omega | (simp only [List.length_map, List.length_range]; omega)) (by omega)) ?_
          intro v1 w7 A1
          have hB7 := Bl.app hB6 A1 hO9 (by omega)
          have hK10 := Blk.app hK8 A1 hO9 (by decide)
          have hK11 := Blk.app hK9 A1 hO9 (by decide)
          have hO10 := Own.app hO8 A1 hO9 (by decide)
          have hC6 := hC5.appLo A1 hO9 (by omega)
          have hz4 := A1.grown.size
          obtain ⟨pv1, nv1, cv1, rfl⟩ := A1.own.form
          refine RW.yl rfl rfl rfl (Yl.assign rfl rfl) ?_
          refine RW.nil ?_
          change CW _ _ _ _ _ _
          refine CW.region ?_
          refine RW.yl rfl rfl rfl (Yl.addN (a := j) (b := 1) rfl rfl rfl (by omega)) ?_
          refine RW.yl rfl rfl rfl (Yl.move rfl rfl) ?_
          refine RW.nil ?_
          have hO11 : Own w7 w3.heap.size 3 (.slice pv1 nv1 cv1) (((List.range (j + 1)).map fun y => f k y).map (.int .i64)) := by rw [range_map_succ, List.map_append]; exact A1.own
          refine ⟨(j + 1, .slice pv1 nv1 cv1), C - (j + 1), by omega, ⟨rfl, (by first | assumption | omega | rfl | omega), hB7, hK10, hK11, hO10, hO11, hC6, (by omega)⟩, Sub.cons rfl (Sub.cons rfl (Sub.cons rfl (Sub.cons rfl (Sub.cons rfl (Sub.cons rfl (Sub.cons rfl (Sub.cons rfl (Sub.cons rfl (Sub.cons rfl (Sub.cons rfl (Sub.cons rfl (Sub.nil))))))))))))⟩)
      ·
        intro hg3
        have hq6 := of_decide_eq_false hg3
        first
        | (exfalso; omega)
        | (
          refine CW.exit ?_
          change CW _ _ _ _ _ _
          refine CW.region ?_
          refine RW.yl rfl rfl rfl (Yl.fieldAddr rfl rfl Try.underlying24 rfl sz22) ?_
          refine RW.yl rfl rfl rfl (Yl.load rfl rfl one22 (Blk.cell hK5 rfl)) ?_
          refine RW.yl rfl rfl rfl (Yl.move rfl rfl) ?_
          refine RW.newS (cs := #[.slice pr nr cr]) (T := 31) (l := 1) (c := 1) rfl rfl rfl (Yv.lit1 rfl rfl rfl Try.underlying22 mkx31) ?_
          intro b4 w8 N4
          have ne4 := New.ne N4 hK4
          have ne5 := New.ne N4 hK5
          have lo_b4 : w.heap.size ≤ b4 := by have := hB4.size; have := N4.num; omega
          have hn_b4 := N4.num
          have hs_b4 := N4.size
          have hB8 := Bl.step hB4 N4.below
          have hK12 := Blk.below hK4 N4.below
          have hK13 := Blk.below hK5 N4.below
          have hO12 := Own.below hO4 N4.below
          have hO13 := Own.below hO5 N4.below
          have hC7 := hC3.below N4.below
          refine RW.app rfl rfl rfl (Yv.append (u := .slice pr nr cr) rfl rfl rfl Try.underlying22 mkx31 hO12 N4.blk rfl (by first | omega | (simp only [List.length_map, List.length_range]; omega)) (by omega)) ?_
          intro v2 w9 A2
          have hB9 := Bl.app hB8 A2 hO12 (Nat.le_refl _)
          have hK14 := Blk.app hK12 A2 hO12 (by decide)
          have hK15 := Blk.app hK13 A2 hO12 (by decide)
          have hO14 := Own.app hO13 A2 hO12 (by decide)
          have hC8 := hC7.app A2 hO12 (by decide)
          have hz5 := A2.grown.size
          obtain ⟨pv2, nv2, cv2, rfl⟩ := A2.own.form
          refine RW.yl rfl rfl rfl (Yl.fieldAddr rfl rfl Try.underlying24 rfl sz22) ?_
          refine RW.sto (v := .slice pv2 nv2 cv2) (i := 0) rfl rfl hK15 (Yu.store rfl rfl rfl rfl rfl sz22 hK15 (by simp)) ?_
          intro w10 H2
          have hB10 := Bl.sto hB9 H2 lo_b2
          have hK16 := Blk.sto hK14 H2 ne1
          have hK17 := H2.blk
          have hO15 := Own.sto hO14 H2 hK15 (by decide)
          have hO16 := Own.sto A2.own H2 hK15 (by decide)
          have hC9 := hC8.stoT H2 hK15 (by decide)
          have hz6 := H2.size
          refine RW.nil ?_
          change CW _ _ _ _ _ _
          refine CW.region ?_
          refine RW.yl rfl rfl rfl (Yl.addN (a := k) (b := 1) rfl rfl rfl (by omega)) ?_
          refine RW.yl rfl rfl rfl (Yl.move rfl rfl) ?_
          refine RW.nil ?_
          obtain rfl : C = j := by omega
          have hr1 := (ORow.ofOwn (l := (List.range C).map fun y => f k y) hO15).lower (lo' := w.heap.size) (by omega)
          have hC10 := hC9.snoc hr1 (by omega)
          rw [← tab_succ] at hC10
          refine ⟨(k + 1, .slice pv2 nv2 cv2, xs ++ [.slice pr nr cr]), R - (k + 1), by omega, ⟨rfl, (by first | assumption | omega | rfl | (simp only [List.length_append, List.length_cons, List.length_nil]; omega)), (by first | assumption | omega | rfl | (simp only [List.length_append, List.length_cons, List.length_nil]; omega)), hB10, hK16, hK17, hO16, (hC10.wide (by omega)), (by omega)⟩, Sub.cons rfl (Sub.cons rfl (Sub.cons rfl (Sub.cons rfl (Sub.cons rfl (Sub.cons rfl (Sub.nil))))))⟩))
  ·
    intro hg4
    have hq8 := of_decide_eq_false hg4
    first
    | (exfalso; omega)
    | (
      refine CW.exit ?_
      change CW _ _ _ _ _ _
      refine CW.seq ?_
      refine CW.region ?_
      refine RW.yl rfl rfl rfl (Yl.loadAgg (cs := [.slice pv nv cv]) rfl rfl many24 (Blk.cells hK3)) ?_
      refine RW.stoAll (cs' := #[.slice pv nv cv]) rfl rfl hK2 (Yu.storeAll rfl rfl rfl sz24 hK2 rfl (by simp [Value.oneCell'])) ?_
      intro w11 H3
      have hB11 := Bl.sto hB3 H3 lo_b1
      have hK18 := H3.blk
      have hK19 := Blk.sto hK3 H3 ne1.symm
      have hO17 := Own.sto hO2 H3 hK2 (by decide)
      have hC11 := hC2.stoT H3 hK2 (by decide)
      have hz7 := H3.size
      refine RW.nil ?_
      change CW _ _ _ _ _ _
      refine CW.ret ?_
      change FinQ _ _ _ _ _ _
      refine finC (.inr rfl) rfl rfl (run_loadVar_many (cs := [.slice pv nv cv]) many24 (Blk.cells hK18)) ?_
      obtain rfl : R = k := by omega
      exact ⟨_, rfl, _, rfl, RRows.ofOwn hO17 hC11 (by omega) (by rw [tab_length]; omega), hB11⟩)

theorem c27_47 {w : World} {R C : Nat} {q0 : Value} {q1 : Value} {q2 : Value} {f : Nat → Nat → Int} (HC : ∀ {W : World} {x y : Nat}, x < R → y < C → Below w.heap.size w W → Calls Try.prog 47 #[.int .i64 ((x : Nat) : Int), .int .i64 ((y : Nat) : Int), q0, q1, q2] W (Ret fun r w' => r = .int .i64 (f x y) ∧ Below W.heap.size W w')) (hR : R ≤ 1048576) (hC : C ≤ 1048576) :
    Calls Try.prog 27 #[.int .i64 ((R : Nat) : Int), .int .i64 ((C : Nat) : Int), .func (.func 47) #[] #[q0, q1, q2]] w (Ret fun r w' => ∃ s, r = .agg #[s] ∧ RRows w.heap.size w'.heap.size w' s (tab R C f) ∧ Below w.heap.size w w') := by
  have hB0 : Below w.heap.size w w := Below.refl _ _
  refine Ev.calls (l := [.int .i64 ((R : Nat) : Int), .int .i64 ((C : Nat) : Int), .func (.func 47) #[] #[q0, q1, q2]]) Try.func27 rfl rfl rfl ?_
  change CW _ _ _ _ [(0, .int .i64 ((R : Nat) : Int)), (1, .int .i64 ((C : Nat) : Int)), (2, .func (.func 47) #[] #[q0, q1, q2])] _
  refine CW.seq ?_
  refine CW.region ?_
  refine RW.newP (cs := #[.slice none 0 0]) (T := 24) rfl rfl rfl (Yv.alloc (z := .agg #[.slice none 0 0]) rfl zero24) ?_
  intro b1 w1 N1
  have lo_b1 : w.heap.size ≤ b1 := by have := hB0.size; have := N1.num; omega
  have hn_b1 := N1.num
  have hs_b1 := N1.size
  have hB1 := Bl.step hB0 N1.below
  refine RW.nil ?_
  change CW _ _ _ _ _ _
  refine CW.seq ?_
  refine CW.region ?_
  refine RW.newP (cs := #[.slice none 0 0]) (T := 24) rfl rfl rfl (Yv.alloc (z := .agg #[.slice none 0 0]) rfl zero24) ?_
  intro b2 w2 N2
  have ne1 := New.ne N2 N1.blk
  have lo_b2 : w.heap.size ≤ b2 := by have := hB1.size; have := N2.num; omega
  have hn_b2 := N2.num
  have hs_b2 := N2.size
  have hB2 := Bl.step hB1 N2.below
  have hK1 := Blk.below N1.blk N2.below
  refine RW.nil ?_
  change CW _ _ _ _ _ _
  refine CW.seq ?_
  refine CW.seq ?_
  refine CW.region ?_
  refine RW.yl rfl rfl rfl (Yl.move rfl rfl) ?_
  refine RW.yl rfl rfl rfl (Yl.move rfl rfl) ?_
  refine RW.nil ?_
  change CW _ _ _ _ _ _
  refine CW.block ?_
  have hO1 := Own.nil w2 w.heap.size 31
  have hC1 : OAll 3 w.heap.size w2.heap.size w2 [] (tab 0 C f) := OAll.nil
  refine CW.loop3 (fun (k : Nat) (v : Value) (xs : List Value) => [(1, .int .i64 ((C : Nat) : Int)), (2, .func (.func 47) #[] #[q0, q1, q2]), (6, .pointer (some ⟨b1, 0, none⟩)), (7, .pointer (some ⟨b2, 0, none⟩)), (11, .int .i64 ((R : Nat) : Int)), (12, .int .i64 ((k : Nat) : Int))]) (fun k v xs gm W => (gm = R - k) ∧ (k ≤ R) ∧ (xs.length = k) ∧ (Below w.heap.size w W) ∧ (Blk W b1 #[.slice none 0 0] 24) ∧ (Blk W b2 #[v] 24) ∧ (Own W w.heap.size 31 v xs) ∧ (OAll 3 w.heap.size W.heap.size W xs (tab k C f)) ∧ (w2.heap.size ≤ W.heap.size)) 0 (.slice none 0 0) ([]) (R - 0) ⟨rfl, (by first | assumption | omega | rfl | (simp only [List.length_append, List.length_cons, List.length_nil]; omega)), (by first | assumption | omega | rfl | (simp only [List.length_append, List.length_cons, List.length_nil]; omega)), hB2, hK1, N2.blk, hO1, (hC1.wide (by omega)), (by omega)⟩ (Sub.cons rfl (Sub.cons rfl (Sub.cons rfl (Sub.cons rfl (Sub.cons rfl (Sub.cons rfl (Sub.nil))))))) ?_
  intro k v xs gm1 w3 hinv
  obtain ⟨hm1, hi1, hi2, hB3, hK2, hK3, hO2, hC2, hz1⟩ := hinv
  change CW _ _ _ _ [(1, .int .i64 ((C : Nat) : Int)), (2, .func (.func 47) #[] #[q0, q1, q2]), (6, .pointer (some ⟨b1, 0, none⟩)), (7, .pointer (some ⟨b2, 0, none⟩)), (11, .int .i64 ((R : Nat) : Int)), (12, .int .i64 ((k : Nat) : Int))] _
  obtain ⟨pv, nv, cv, rfl⟩ := hO2.form
  refine CW.seq ?_
  refine CW.region ?_
  refine RW.yl rfl rfl rfl (Yl.lss rfl rfl rfl) ?_
  refine RW.nil ?_
  change CW _ _ _ _ _ _
  refine CW.seq ?_
  refine CW.cond rfl ?_ ?_
  ·
    intro hg1
    have hq2 := of_decide_eq_true hg1
    first
    | (exfalso; omega)
    | (
      refine CW.skip ?_
      change CW _ _ _ _ _ _
      refine CW.seq ?_
      refine CW.block ?_
      refine CW.seq ?_
      refine CW.region ?_
      refine RW.yl rfl rfl rfl (Yl.move rfl rfl) ?_
      refine RW.yl rfl rfl rfl (Yl.assign rfl rfl) ?_
      refine RW.nil ?_
      change CW _ _ _ _ _ _
      refine CW.seq ?_
      refine CW.region ?_
      refine RW.yl rfl rfl rfl (Yl.assign rfl rfl) ?_
      refine RW.nil ?_
      change CW _ _ _ _ _ _
      refine CW.seq ?_
      refine CW.seq ?_
      refine CW.region ?_
      refine RW.yl rfl rfl rfl (Yl.move rfl rfl) ?_
      refine RW.yl rfl rfl rfl (Yl.move rfl rfl) ?_
      refine RW.nil ?_
      change CW _ _ _ _ _ _
      refine CW.block ?_
      have hO3 := Own.nil w3 w3.heap.size 3
      refine CW.loop2 (fun (j : Nat) (rv : Value) => [(1, .int .i64 ((C : Nat) : Int)), (2, .func (.func 47) #[] #[q0, q1, q2]), (6, .pointer (some ⟨b1, 0, none⟩)), (7, .pointer (some ⟨b2, 0, none⟩)), (8, .int .i64 ((k : Nat) : Int)), (9, rv), (11, .int .i64 ((R : Nat) : Int)), (12, .int .i64 ((k : Nat) : Int)), (13, .bool (decide (((k : Nat) : Int) < ((R : Nat) : Int)))), (14, .int .i64 ((k : Nat) : Int)), (15, .int .i64 ((C : Nat) : Int)), (16, .int .i64 ((j : Nat) : Int))]) (fun j rv gm W => (gm = C - j) ∧ (j ≤ C) ∧ (Below w.heap.size w W) ∧ (Blk W b1 #[.slice none 0 0] 24) ∧ (Blk W b2 #[.slice pv nv cv] 24) ∧ (Own W w.heap.size 31 (.slice pv nv cv) xs) ∧ (Own W w3.heap.size 3 rv (((List.range j).map fun y => f k y).map (.int .i64))) ∧ (OAll 3 w.heap.size w3.heap.size W xs (tab k C f)) ∧ (w3.heap.size ≤ W.heap.size)) 0 (.slice none 0 0) (C - 0) ⟨rfl, (by first | assumption | omega | rfl | omega), hB3, hK2, hK3, hO2, hO3, hC2, (by omega)⟩ (Sub.cons rfl (Sub.cons rfl (Sub.cons rfl (Sub.cons rfl (Sub.cons rfl (Sub.cons rfl (Sub.cons rfl (Sub.cons rfl (Sub.cons rfl (Sub.cons rfl (Sub.cons rfl (Sub.cons rfl (Sub.nil))))))))))))) ?_
      intro j rv gm2 w4 hinv
      obtain ⟨hm2, hi3, hB4, hK4, hK5, hO4, hO5, hC3, hz2⟩ := hinv
      change CW _ _ _ _ [(1, .int .i64 ((C : Nat) : Int)), (2, .func (.func 47) #[] #[q0, q1, q2]), (6, .pointer (some ⟨b1, 0, none⟩)), (7, .pointer (some ⟨b2, 0, none⟩)), (8, .int .i64 ((k : Nat) : Int)), (9, rv), (11, .int .i64 ((R : Nat) : Int)), (12, .int .i64 ((k : Nat) : Int)), (13, .bool (decide (((k : Nat) : Int) < ((R : Nat) : Int)))), (14, .int .i64 ((k : Nat) : Int)), (15, .int .i64 ((C : Nat) : Int)), (16, .int .i64 ((j : Nat) : Int))] _
      obtain ⟨pr, nr, cr, rfl⟩ := hO5.form
      refine CW.seq ?_
      refine CW.region ?_
      refine RW.yl rfl rfl rfl (Yl.lss rfl rfl rfl) ?_
      refine RW.nil ?_
      change CW _ _ _ _ _ _
      refine CW.seq ?_
      refine CW.cond rfl ?_ ?_
      ·
        intro hg2
        have hq4 := of_decide_eq_true hg2
        first
        | (exfalso; omega)
        | (
          refine CW.skip ?_
          change CW _ _ _ _ _ _
          refine CW.seq ?_
          refine CW.block ?_
          refine CW.seq ?_
          refine CW.region ?_
          refine RW.yl rfl rfl rfl (Yl.move rfl rfl) ?_
          refine RW.yl rfl rfl rfl (Yl.assign rfl rfl) ?_
          refine RW.nil ?_
          change CW _ _ _ _ _ _
          refine CW.region ?_
          refine RW.yl rfl rfl rfl (Yl.move rfl rfl) ?_
          refine RW.yl rfl rfl rfl (Yl.move rfl rfl) ?_
          refine RW.yl rfl rfl rfl (Yl.move rfl rfl) ?_
          refine RW.yl rfl rfl rfl (Yl.move rfl rfl) ?_
          refine RW.fn rfl rfl rfl (Yc.closure #[.int .i64 ((k : Nat) : Int), .int .i64 ((j : Nat) : Int), q0, q1, q2] rfl rfl ok47 (capt (args2 rfl rfl) rfl)) (HC (x := k) (y := j) (by omega) (by omega) hB4) ?_
          rintro _ w5 ⟨rfl, H1⟩
          have hB5 := Bl.step hB4 H1
          have hK6 := Blk.below hK4 H1
          have hK7 := Blk.below hK5 H1
          have hO6 := Own.below hO4 H1
          have hO7 := Own.below hO5 H1
          have hC4 := hC3.below H1
          have hz3 := H1.size
          refine RW.newS (cs := #[.int .i64 (f k j)]) (T := 3) (l := 1) (c := 1) rfl rfl rfl (Yv.lit1 rfl rfl rfl Try.underlying31 mkx3) ?_
          intro b3 w6 N3
          have ne2 := New.ne N3 hK6
          have ne3 := New.ne N3 hK7
          have lo_b3 : w.heap.size ≤ b3 := by have := hB5.size; have := N3.num; omega
          have hn_b3 := N3.num
          have hs_b3 := N3.size
          have hB6 := Bl.step hB5 N3.below
          have hK8 := Blk.below hK6 N3.below
          have hK9 := Blk.below hK7 N3.below
          have hO8 := Own.below hO6 N3.below
          have hO9 := Own.below hO7 N3.below
          have hC5 := hC4.below N3.below
          refine RW.app rfl rfl rfl (Yv.append (u := .int .i64 (f k j)) rfl rfl rfl Try.underlying31 mkx3 hO9 N3.blk rfl (by first | omega | (simp only [List.length_map, List.length_range]; omega)) (by omega)) ?_
          intro v1 w7 A1
          have hB7 := Bl.app hB6 A1 hO9 (by omega)
          have hK10 := Blk.app hK8 A1 hO9 (by decide)
          have hK11 := Blk.app hK9 A1 hO9 (by decide)
          have hO10 := Own.app hO8 A1 hO9 (by decide)
          have hC6 := hC5.appLo A1 hO9 (by omega)
          have hz4 := A1.grown.size
          obtain ⟨pv1, nv1, cv1, rfl⟩ := A1.own.form
          refine RW.yl rfl rfl rfl (Yl.assign rfl rfl) ?_
          refine RW.nil ?_
          change CW _ _ _ _ _ _
          refine CW.region ?_
          refine RW.yl rfl rfl rfl (Yl.addN (a := j) (b := 1) rfl rfl rfl (by omega)) ?_
          refine RW.yl rfl rfl rfl (Yl.move rfl rfl) ?_
          refine RW.nil ?_
          have hO11 : Own w7 w3.heap.size 3 (.slice pv1 nv1 cv1) (((List.range (j + 1)).map fun y => f k y).map (.int .i64)) := by rw [range_map_succ, List.map_append]; exact A1.own
          refine ⟨(j + 1, .slice pv1 nv1 cv1), C - (j + 1), by omega, ⟨rfl, (by first | assumption | omega | rfl | omega), hB7, hK10, hK11, hO10, hO11, hC6, (by omega)⟩, Sub.cons rfl (Sub.cons rfl (Sub.cons rfl (Sub.cons rfl (Sub.cons rfl (Sub.cons rfl (Sub.cons rfl (Sub.cons rfl (Sub.cons rfl (Sub.cons rfl (Sub.cons rfl (Sub.cons rfl (Sub.nil))))))))))))⟩)
      ·
        intro hg3
        have hq6 := of_decide_eq_false hg3
        first
        | (exfalso; omega)
        | (
          refine CW.exit ?_
          change CW _ _ _ _ _ _
          refine CW.region ?_
          refine RW.yl rfl rfl rfl (Yl.fieldAddr rfl rfl Try.underlying24 rfl sz22) ?_
          refine RW.yl rfl rfl rfl (Yl.load rfl rfl one22 (Blk.cell hK5 rfl)) ?_
          refine RW.yl rfl rfl rfl (Yl.move rfl rfl) ?_
          refine RW.newS (cs := #[.slice pr nr cr]) (T := 31) (l := 1) (c := 1) rfl rfl rfl (Yv.lit1 rfl rfl rfl Try.underlying22 mkx31) ?_
          intro b4 w8 N4
          have ne4 := New.ne N4 hK4
          have ne5 := New.ne N4 hK5
          have lo_b4 : w.heap.size ≤ b4 := by have := hB4.size; have := N4.num; omega
          have hn_b4 := N4.num
          have hs_b4 := N4.size
          have hB8 := Bl.step hB4 N4.below
          have hK12 := Blk.below hK4 N4.below
          have hK13 := Blk.below hK5 N4.below
          have hO12 := Own.below hO4 N4.below
          have hO13 := Own.below hO5 N4.below
          have hC7 := hC3.below N4.below
          refine RW.app rfl rfl rfl (Yv.append (u := .slice pr nr cr) rfl rfl rfl Try.underlying22 mkx31 hO12 N4.blk rfl (by first | omega | (simp only [List.length_map, List.length_range]; omega)) (by omega)) ?_
          intro v2 w9 A2
          have hB9 := Bl.app hB8 A2 hO12 (Nat.le_refl _)
          have hK14 := Blk.app hK12 A2 hO12 (by decide)
          have hK15 := Blk.app hK13 A2 hO12 (by decide)
          have hO14 := Own.app hO13 A2 hO12 (by decide)
          have hC8 := hC7.app A2 hO12 (by decide)
          have hz5 := A2.grown.size
          obtain ⟨pv2, nv2, cv2, rfl⟩ := A2.own.form
          refine RW.yl rfl rfl rfl (Yl.fieldAddr rfl rfl Try.underlying24 rfl sz22) ?_
          refine RW.sto (v := .slice pv2 nv2 cv2) (i := 0) rfl rfl hK15 (Yu.store rfl rfl rfl rfl rfl sz22 hK15 (by simp)) ?_
          intro w10 H2
          have hB10 := Bl.sto hB9 H2 lo_b2
          have hK16 := Blk.sto hK14 H2 ne1
          have hK17 := H2.blk
          have hO15 := Own.sto hO14 H2 hK15 (by decide)
          have hO16 := Own.sto A2.own H2 hK15 (by decide)
          have hC9 := hC8.stoT H2 hK15 (by decide)
          have hz6 := H2.size
          refine RW.nil ?_
          change CW _ _ _ _ _ _
          refine CW.region ?_
          refine RW.yl rfl rfl rfl (Yl.addN (a := k) (b := 1) rfl rfl rfl (by omega)) ?_
          refine RW.yl rfl rfl rfl (Yl.move rfl rfl) ?_
          refine RW.nil ?_
          obtain rfl : C = j := by omega
          have hr1 := (ORow.ofOwn (l := (List.range C).map fun y => f k y) hO15).lower (lo' := w.heap.size) (by omega)
          have hC10 := hC9.snoc hr1 (by omega)
          rw [← tab_succ] at hC10
          refine ⟨(k + 1, .slice pv2 nv2 cv2, xs ++ [.slice pr nr cr]), R - (k + 1), by omega, ⟨rfl, (by first | assumption | omega | rfl | (simp only [List.length_append, List.length_cons, List.length_nil]; omega)), (by first | assumption | omega | rfl | (simp only [List.length_append, List.length_cons, List.length_nil]; omega)), hB10, hK16, hK17, hO16, (hC10.wide (by omega)), (by omega)⟩, Sub.cons rfl (Sub.cons rfl (Sub.cons rfl (Sub.cons rfl (Sub.cons rfl (Sub.cons rfl (Sub.nil))))))⟩))
  ·
    intro hg4
    have hq8 := of_decide_eq_false hg4
    first
    | (exfalso; omega)
    | (
      refine CW.exit ?_
      change CW _ _ _ _ _ _
      refine CW.seq ?_
      refine CW.region ?_
      refine RW.yl rfl rfl rfl (Yl.loadAgg (cs := [.slice pv nv cv]) rfl rfl many24 (Blk.cells hK3)) ?_
      refine RW.stoAll (cs' := #[.slice pv nv cv]) rfl rfl hK2 (Yu.storeAll rfl rfl rfl sz24 hK2 rfl (by simp [Value.oneCell'])) ?_
      intro w11 H3
      have hB11 := Bl.sto hB3 H3 lo_b1
      have hK18 := H3.blk
      have hK19 := Blk.sto hK3 H3 ne1.symm
      have hO17 := Own.sto hO2 H3 hK2 (by decide)
      have hC11 := hC2.stoT H3 hK2 (by decide)
      have hz7 := H3.size
      refine RW.nil ?_
      change CW _ _ _ _ _ _
      refine CW.ret ?_
      change FinQ _ _ _ _ _ _
      refine finC (.inr rfl) rfl rfl (run_loadVar_many (cs := [.slice pv nv cv]) many24 (Blk.cells hK18)) ?_
      obtain rfl : R = k := by omega
      exact ⟨_, rfl, _, rfl, RRows.ofOwn hO17 hC11 (by omega) (by rw [tab_length]; omega), hB11⟩)

end Go.Proofs.Ytodeffidnipelaa
