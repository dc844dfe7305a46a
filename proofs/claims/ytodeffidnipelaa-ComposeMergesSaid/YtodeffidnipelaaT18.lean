/- filled, its rows apart. -/
import Derived.Test.YtodeffidnipelaaT6
import Derived.Test.YtodeffidnipelaaEvMat
namespace Go.Proofs.Ytodeffidnipelaa
open Go.RowKit Go.Ev

theorem c43m_53 {w : World} {R C : Nat} {f : Nat → Nat → Int} (HC : ∀ {W : World} {x y : Nat}, x < R → y < C → Below w.heap.size w W → Calls Try.prog 53 #[.int .i64 ((x : Nat) : Int), .int .i64 ((y : Nat) : Int)] W (Ret fun r w' => r = .int .i64 (f x y) ∧ Below W.heap.size W w')) (hR : R ≤ 1048576) (hC : C ≤ 1048576) (hR1 : 1 ≤ R) :
    Calls Try.prog 43 #[.int .i64 ((R : Nat) : Int), .int .i64 ((C : Nat) : Int), .func (.func 53) #[] #[]] w (Ret fun r w' => ∃ go capo curo G, r = .agg #[.slice (some ⟨go, 0, none⟩) R capo] ∧ Blk w' go curo 31 ∧ w.heap.size ≤ go ∧ OStat w.heap.size w'.heap.size R C curo G ∧ OMat 3 w' R C G f R ∧ Below w.heap.size w w') := by
  have hB0 : Below w.heap.size w w := Below.refl _ _
  refine Ev.calls (l := [.int .i64 ((R : Nat) : Int), .int .i64 ((C : Nat) : Int), .func (.func 53) #[] #[]]) Try.func43 rfl rfl rfl ?_
  change CW _ _ _ _ [(0, .int .i64 ((R : Nat) : Int)), (1, .int .i64 ((C : Nat) : Int)), (2, .func (.func 53) #[] #[])] _
  refine CW.seq ?_
  refine CW.region ?_
  refine RW.newP (cs := #[.slice none 0 0]) (T := 24) rfl rfl rfl (Yv.alloc (z := .agg #[.slice none 0 0]) rfl zero24) ?_
  intro b1 w1 N1
  have lo_b1 : w.heap.size ≤ b1 := by have := hB0.size; have := N1.num; omega
  have hn_b1 := N1.num
  have hs_b1 := N1.size
  have hB1 := Bl.step hB0 N1.below
  refine RW.nil ?_
  change CW _ _ _ _ _ _
  refine CW.seq ?_
  refine CW.region ?_
  refine RW.newP (cs := #[.slice none 0 0]) (T := 24) rfl rfl rfl (Yv.alloc (z := .agg #[.slice none 0 0]) rfl zero24) ?_
  intro b2 w2 N2
  have ne1 := New.ne N2 N1.blk
  have lo_b2 : w.heap.size ≤ b2 := by have := hB1.size; have := N2.num; omega
  have hn_b2 := N2.num
  have hs_b2 := N2.size
  have hB2 := Bl.step hB1 N2.below
  have hK1 := Blk.below N1.blk N2.below
  refine RW.nil ?_
  change CW _ _ _ _ _ _
  refine CW.seq ?_
  refine CW.seq ?_
  refine CW.region ?_
  refine RW.yl rfl rfl rfl (Yl.move rfl rfl) ?_
  refine RW.yl rfl rfl rfl (Yl.move rfl rfl) ?_
  refine RW.nil ?_
  change CW _ _ _ _ _ _
  refine CW.block ?_
  have hO1 := Own.nil w2 w.heap.size 31
  have hC1 : OPre 3 w.heap.size w2.heap.size w2 0 C [] (fun _ => 0) f := OPre.nil
  refine CW.loop4 (fun (k : Nat) (v : Value) (xs : List Value) (G : Nat → Nat) => [(1, .int .i64 ((C : Nat) : Int)), (2, .func (.func 53) #[] #[]), (6, .pointer (some ⟨b1, 0, none⟩)), (7, .pointer (some ⟨b2, 0, none⟩)), (11, .int .i64 ((R : Nat) : Int)), (12, .int .i64 ((k : Nat) : Int))]) (fun k v xs G gm W => (gm = R - k) ∧ (k ≤ R) ∧ (xs.length = k) ∧ (Below w.heap.size w W) ∧ (Blk W b1 #[.slice none 0 0] 24) ∧ (Blk W b2 #[v] 24) ∧ (Own W w.heap.size 31 v xs) ∧ (OPre 3 w.heap.size W.heap.size W k C xs G f) ∧ (w2.heap.size ≤ W.heap.size)) 0 (.slice none 0 0) ([]) (fun _ => 0) (R - 0) ⟨rfl, (by first | assumption | omega | rfl | (simp only [List.length_append, List.length_cons, List.length_nil]; omega)), (by first | assumption | omega | rfl | (simp only [List.length_append, List.length_cons, List.length_nil]; omega)), hB2, hK1, N2.blk, hO1, (hC1.wide (by omega)), (by omega)⟩ (Sub.cons rfl (Sub.cons rfl (Sub.cons rfl (Sub.cons rfl (Sub.cons rfl (Sub.cons rfl (Sub.nil))))))) ?_
  intro k v xs G gm1 w3 hinv
  obtain ⟨hm1, hi1, hi2, hB3, hK2, hK3, hO2, hC2, hz1⟩ := hinv
  change CW _ _ _ _ [(1, .int .i64 ((C : Nat) : Int)), (2, .func (.func 53) #[] #[]), (6, .pointer (some ⟨b1, 0, none⟩)), (7, .pointer (some ⟨b2, 0, none⟩)), (11, .int .i64 ((R : Nat) : Int)), (12, .int .i64 ((k : Nat) : Int))] _
  obtain ⟨pv, nv, cv, rfl⟩ := hO2.form
  refine CW.seq ?_
  refine CW.region ?_
  refine RW.yl rfl rfl rfl (Yl.lss rfl rfl rfl) ?_
  refine RW.nil ?_
  change CW _ _ _ _ _ _
  refine CW.seq ?_
  refine CW.cond rfl ?_ ?_
  ·
    intro hg1
    have hq2 := of_decide_eq_true hg1
    first
    | (exfalso; omega)
    | (
      refine CW.skip ?_
      change CW _ _ _ _ _ _
      refine CW.seq ?_
      refine CW.block ?_
      refine CW.seq ?_
      refine CW.region ?_
      refine RW.yl rfl rfl rfl (Yl.move rfl rfl) ?_
      refine RW.yl rfl rfl rfl (Yl.assign rfl rfl) ?_
      refine RW.nil ?_
      change CW _ _ _ _ _ _
      refine CW.seq ?_
      refine CW.region ?_
      refine RW.yl rfl rfl rfl (Yl.move rfl rfl) ?_
      refine RW.newS (cs := Array.replicate C (.int .i64 0)) (T := 3) (l := C) (c := C) rfl rfl rfl (Yv.make (k := C) rfl rfl rfl rfl Try.underlying31 mk3 rfl (by omega)) ?_
      intro b3 w4 N3
      have ne2 := New.ne N3 hK2
      have ne3 := New.ne N3 hK3
      have lo_b3 : w.heap.size ≤ b3 := by have := hB3.size; have := N3.num; omega
      have hn_b3 := N3.num
      have hs_b3 := N3.size
      have hB4 := Bl.step hB3 N3.below
      have hK4 := Blk.below hK2 N3.below
      have hK5 := Blk.below hK3 N3.below
      have hO3 := Own.below hO2 N3.below
      have hC3 := hC2.below N3.below
      refine RW.yl rfl rfl rfl (Yl.assign rfl rfl) ?_
      refine RW.nil ?_
      change CW _ _ _ _ _ _
      refine CW.seq ?_
      refine CW.seq ?_
      refine CW.region ?_
      refine RW.yl rfl rfl rfl (Yl.move rfl rfl) ?_
      refine RW.yl rfl rfl rfl (Yl.len rfl rfl Try.underlying31) ?_
      refine RW.yl rfl rfl rfl (Yl.move rfl rfl) ?_
      refine RW.nil ?_
      change CW _ _ _ _ _ _
      refine CW.block ?_
      refine CW.loop2 (fun (j : Nat) (cur : Array Value) => [(1, .int .i64 ((C : Nat) : Int)), (2, .func (.func 53) #[] #[]), (6, .pointer (some ⟨b1, 0, none⟩)), (7, .pointer (some ⟨b2, 0, none⟩)), (8, .int .i64 ((k : Nat) : Int)), (9, .slice (some ⟨b3, 0, none⟩) C C), (11, .int .i64 ((R : Nat) : Int)), (12, .int .i64 ((k : Nat) : Int)), (13, .bool (decide (((k : Nat) : Int) < ((R : Nat) : Int)))), (14, .int .i64 ((k : Nat) : Int)), (15, .int .i64 ((C : Nat) : Int)), (16, .slice (some ⟨b3, 0, none⟩) C C), (17, .slice (some ⟨b3, 0, none⟩) C C), (18, .int .i64 ((C : Nat) : Int)), (19, .int .i64 ((j : Nat) : Int))]) (fun j cur gm W => (gm = C - j) ∧ (j ≤ C) ∧ (cur.size = C) ∧ (∀ i, i < j → cur[i]? = some (.int .i64 (f k i))) ∧ (Below w.heap.size w W) ∧ (Blk W b1 #[.slice none 0 0] 24) ∧ (Blk W b2 #[.slice pv nv cv] 24) ∧ (Blk W b3 cur 3) ∧ (Own W w.heap.size 31 (.slice pv nv cv) xs) ∧ (OPre 3 w.heap.size w3.heap.size W k C xs G f) ∧ (w4.heap.size ≤ W.heap.size)) 0 (Array.replicate C (.int .i64 0)) (C - 0) ⟨rfl, (by first | assumption | omega | rfl | (first | exact Array.size_replicate | (intro i hi; omega) | exact size_set (by assumption) | exact fill_next (g := fun i => .int .i64 (f k i)) (by assumption) (by omega))), (by first | assumption | omega | rfl | (first | exact Array.size_replicate | (intro i hi; omega) | exact size_set (by assumption) | exact fill_next (g := fun i => .int .i64 (f k i)) (by assumption) (by omega))), (by first | assumption | omega | rfl | (first | exact Array.size_replicate | (intro i hi; omega) | exact size_set (by assumption) | exact fill_next (g := fun i => .int .i64 (f k i)) (by assumption) (by omega))), hB4, hK4, hK5, N3.blk, hO3, hC3, (by omega)⟩ (Sub.cons rfl (Sub.cons rfl (Sub.cons rfl (Sub.cons rfl (Sub.cons rfl (Sub.cons rfl (Sub.cons rfl (Sub.cons rfl (Sub.cons rfl (Sub.cons rfl (Sub.cons rfl (Sub.cons rfl (Sub.cons rfl (Sub.cons rfl (Sub.cons rfl (Sub.nil)))))))))))))))) ?_
      intro j cur gm2 w5 hinv
      obtain ⟨hm2, hi3, hi4, hi5, hB5, hK6, hK7, hK8, hO4, hC4, hz2⟩ := hinv
      change CW _ _ _ _ [(1, .int .i64 ((C : Nat) : Int)), (2, .func (.func 53) #[] #[]), (6, .pointer (some ⟨b1, 0, none⟩)), (7, .pointer (some ⟨b2, 0, none⟩)), (8, .int .i64 ((k : Nat) : Int)), (9, .slice (some ⟨b3, 0, none⟩) C C), (11, .int .i64 ((R : Nat) : Int)), (12, .int .i64 ((k : Nat) : Int)), (13, .bool (decide (((k : Nat) : Int) < ((R : Nat) : Int)))), (14, .int .i64 ((k : Nat) : Int)), (15, .int .i64 ((C : Nat) : Int)), (16, .slice (some ⟨b3, 0, none⟩) C C), (17, .slice (some ⟨b3, 0, none⟩) C C), (18, .int .i64 ((C : Nat) : Int)), (19, .int .i64 ((j : Nat) : Int))] _
      have hrowf := hi5
      refine CW.seq ?_
      refine CW.region ?_
      refine RW.yl rfl rfl rfl (Yl.lss rfl rfl rfl) ?_
      refine RW.nil ?_
      change CW _ _ _ _ _ _
      refine CW.seq ?_
      refine CW.cond rfl ?_ ?_
      ·
        intro hg2
        have hq4 := of_decide_eq_true hg2
        first
        | (exfalso; omega)
        | (
          refine CW.skip ?_
          change CW _ _ _ _ _ _
          refine CW.seq ?_
          refine CW.block ?_
          refine CW.seq ?_
          refine CW.region ?_
          refine RW.yl rfl rfl rfl (Yl.move rfl rfl) ?_
          refine RW.yl rfl rfl rfl (Yl.assign rfl rfl) ?_
          refine RW.nil ?_
          change CW _ _ _ _ _ _
          refine CW.region ?_
          refine RW.yl rfl rfl rfl (Yl.move rfl rfl) ?_
          refine RW.yl rfl rfl rfl (Yl.move rfl rfl) ?_
          refine RW.yl rfl rfl rfl (Yl.move rfl rfl) ?_
          refine RW.yl rfl rfl rfl (Yl.move rfl rfl) ?_
          refine RW.yl rfl rfl rfl (Yl.move rfl rfl) ?_
          refine RW.fn rfl rfl rfl (Yc.closure #[.int .i64 ((k : Nat) : Int), .int .i64 ((j : Nat) : Int)] rfl rfl ok53 (capt (args2 rfl rfl) rfl)) (HC (x := k) (y := j) (by omega) (by omega) hB5) ?_
          rintro _ w6 ⟨rfl, H1⟩
          have hB6 := Bl.step hB5 H1
          have hK9 := Blk.below hK6 H1
          have hK10 := Blk.below hK7 H1
          have hK11 := Blk.below hK8 H1
          have hO5 := Own.below hO4 H1
          have hC5 := hC4.below H1
          have hz3 := H1.size
          refine RW.yl rfl rfl rfl (Yl.indexAddr1 (k := j) rfl rfl rfl Try.underlying31 sz3 rfl rfl (by omega)) ?_
          refine RW.sto (v := .int .i64 (f k j)) (i := 0 + j) rfl rfl hK11 (Yu.store rfl rfl rfl rfl rfl sz3 hK11 (by omega)) ?_
          intro w7 H2
          have hB7 := Bl.sto hB6 H2 lo_b3
          have hK12 := Blk.sto hK9 H2 ne2
          have hK13 := Blk.sto hK10 H2 ne3
          have hK14 := H2.blk
          have hO6 := Own.sto hO5 H2 hK11 (by decide)
          have hC6 := hC5.sto H2 (by omega)
          have hz4 := H2.size
          refine RW.nil ?_
          change CW _ _ _ _ _ _
          refine CW.region ?_
          refine RW.yl rfl rfl rfl (Yl.addN (a := j) (b := 1) rfl rfl rfl (by omega)) ?_
          refine RW.yl rfl rfl rfl (Yl.move rfl rfl) ?_
          refine RW.nil ?_
          refine ⟨(j + 1, (cur).setIfInBounds (0 + j) (.int .i64 (f k j))), C - (j + 1), by omega, ⟨rfl, (by first | assumption | omega | rfl | (first | exact Array.size_replicate | (intro i hi; omega) | exact size_set (by assumption) | exact fill_next (g := fun i => .int .i64 (f k i)) (by assumption) (by omega))), (by first | assumption | omega | rfl | (first | exact Array.size_replicate | (intro i hi; omega) | exact size_set (by assumption) | exact fill_next (g := fun i => .int .i64 (f k i)) (by assumption) (by omega))), (by first | assumption | omega | rfl | (first | exact Array.size_replicate | (intro i hi; omega) | exact size_set (by assumption) | exact fill_next (g := fun i => .int .i64 (f k i)) (by assumption) (by omega))), hB7, hK12, hK13, hK14, hO6, hC6, (by omega)⟩, Sub.cons rfl (Sub.cons rfl (Sub.cons rfl (Sub.cons rfl (Sub.cons rfl (Sub.cons rfl (Sub.cons rfl (Sub.cons rfl (Sub.cons rfl (Sub.cons rfl (Sub.cons rfl (Sub.cons rfl (Sub.cons rfl (Sub.cons rfl (Sub.cons rfl (Sub.nil)))))))))))))))⟩)
      ·
        intro hg3
        have hq6 := of_decide_eq_false hg3
        first
        | (exfalso; omega)
        | (
          refine CW.exit ?_
          change CW _ _ _ _ _ _
          refine CW.region ?_
          refine RW.yl rfl rfl rfl (Yl.fieldAddr rfl rfl Try.underlying24 rfl sz22) ?_
          refine RW.yl rfl rfl rfl (Yl.load rfl rfl one22 (Blk.cell hK7 rfl)) ?_
          refine RW.yl rfl rfl rfl (Yl.move rfl rfl) ?_
          refine RW.newS (cs := #[.slice (some ⟨b3, 0, none⟩) C C]) (T := 31) (l := 1) (c := 1) rfl rfl rfl (Yv.lit1 rfl rfl rfl Try.underlying22 mkx31) ?_
          intro b4 w8 N4
          have ne4 := New.ne N4 hK6
          have ne5 := New.ne N4 hK7
          have ne6 := New.ne N4 hK8
          have lo_b4 : w.heap.size ≤ b4 := by have := hB5.size; have := N4.num; omega
          have hn_b4 := N4.num
          have hs_b4 := N4.size
          have hB8 := Bl.step hB5 N4.below
          have hK15 := Blk.below hK6 N4.below
          have hK16 := Blk.below hK7 N4.below
          have hK17 := Blk.below hK8 N4.below
          have hO7 := Own.below hO4 N4.below
          have hC7 := hC4.below N4.below
          refine RW.app rfl rfl rfl (Yv.append (u := .slice (some ⟨b3, 0, none⟩) C C) rfl rfl rfl Try.underlying22 mkx31 hO7 N4.blk rfl (by first | omega | (simp only [List.length_map, List.length_range]; omega)) (by omega)) ?_
          intro v1 w9 A1
          have hB9 := Bl.app hB8 A1 hO7 (Nat.le_refl _)
          have hK18 := Blk.app hK15 A1 hO7 (by decide)
          have hK19 := Blk.app hK16 A1 hO7 (by decide)
          have hK20 := Blk.app hK17 A1 hO7 (by decide)
          have hC8 := hC7.app A1 hO7 (by decide)
          have hz5 := A1.grown.size
          obtain ⟨pv1, nv1, cv1, rfl⟩ := A1.own.form
          refine RW.yl rfl rfl rfl (Yl.fieldAddr rfl rfl Try.underlying24 rfl sz22) ?_
          refine RW.sto (v := .slice pv1 nv1 cv1) (i := 0) rfl rfl hK19 (Yu.store rfl rfl rfl rfl rfl sz22 hK19 (by simp)) ?_
          intro w10 H3
          have hB10 := Bl.sto hB9 H3 lo_b2
          have hK21 := Blk.sto hK18 H3 ne1
          have hK22 := H3.blk
          have hK23 := Blk.sto hK20 H3 ne3.symm
          have hO8 := Own.sto A1.own H3 hK19 (by decide)
          have hC9 := hC8.stoT H3 hK19 (by decide)
          have hz6 := H3.size
          refine RW.nil ?_
          change CW _ _ _ _ _ _
          refine CW.region ?_
          refine RW.yl rfl rfl rfl (Yl.addN (a := k) (b := 1) rfl rfl rfl (by omega)) ?_
          refine RW.yl rfl rfl rfl (Yl.move rfl rfl) ?_
          refine RW.nil ?_
          obtain rfl : C = j := by omega
          have hC10 := hC9.snoc hK23 lo_b3 (by omega) (by assumption) hrowf
          refine ⟨(k + 1, .slice pv1 nv1 cv1, xs ++ [.slice (some ⟨b3, 0, none⟩) C C], fun i => if i = k then b3 else G i), R - (k + 1), by omega, ⟨rfl, (by first | assumption | omega | rfl | (simp only [List.length_append, List.length_cons, List.length_nil]; omega)), (by first | assumption | omega | rfl | (simp only [List.length_append, List.length_cons, List.length_nil]; omega)), hB10, hK21, hK22, hO8, (hC10.wide (by omega)), (by omega)⟩, Sub.cons rfl (Sub.cons rfl (Sub.cons rfl (Sub.cons rfl (Sub.cons rfl (Sub.cons rfl (Sub.nil))))))⟩))
  ·
    intro hg4
    have hq8 := of_decide_eq_false hg4
    first
    | (exfalso; omega)
    | (
      refine CW.exit ?_
      change CW _ _ _ _ _ _
      refine CW.seq ?_
      refine CW.region ?_
      refine RW.yl rfl rfl rfl (Yl.loadAgg (cs := [.slice pv nv cv]) rfl rfl many24 (Blk.cells hK3)) ?_
      refine RW.stoAll (cs' := #[.slice pv nv cv]) rfl rfl hK2 (Yu.storeAll rfl rfl rfl sz24 hK2 rfl (by simp [Value.oneCell'])) ?_
      intro w11 H4
      have hB11 := Bl.sto hB3 H4 lo_b1
      have hK24 := H4.blk
      have hK25 := Blk.sto hK3 H4 ne1.symm
      have hO9 := Own.sto hO2 H4 hK2 (by decide)
      have hC11 := hC2.stoT H4 hK2 (by decide)
      have hz7 := H4.size
      refine RW.nil ?_
      change CW _ _ _ _ _ _
      refine CW.ret ?_
      change FinQ _ _ _ _ _ _
      refine finC (.inr rfl) rfl rfl (run_loadVar_many (cs := [.slice pv nv cv]) many24 (Blk.cells hK24)) ?_
      obtain rfl : R = k := by omega
      obtain ⟨go, capo, curo, hv, hgo, hgl, hst, hmat⟩ := OPre.fin hO9 hC11 hR1
      cases hv
      exact ⟨_, rfl, go, _, curo, G, rfl, hgo, hgl, hst.wide (by omega), hmat, hB11⟩)

end Go.Proofs.Ytodeffidnipelaa
