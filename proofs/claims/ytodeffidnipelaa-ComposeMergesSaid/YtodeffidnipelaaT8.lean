/- The compositions of the statements, and the first example. -/
import Derived.Test.YtodeffidnipelaaT7
import Derived.Test.YtodeffidnipelaaEvLit
namespace Go.Proofs.Ytodeffidnipelaa
open Go.RowKit Go.Ev

/-- A valid matrix as a channel, with its total. -/
theorem validB_chanT {m : List (List Int)} (h : validB m = true) : Chan m m.length (m[0]!).length (totG m) := by rw [totG_valid h]; exact validB_chan h
def cascT (c d : List (List Int)) : List (List Int) := tab c.length (d[0]!).length fun x y => sumTo d.length fun k => ((c[x]!)[k]!) * ((d[k]!)[y]!)
def parT (c d : List (List Int)) : List (List Int) := tab c.length ((c[0]!).length * (d[0]!).length) fun x y => ((c[x]!)[y / (d[0]!).length]!) * ((d[x]!)[y % (d[0]!).length]!)
theorem c14r {w : World} {v u : Value} {c d : List (List Int)} (hv : RRows 0 w.heap.size w v c) (hu : RRows 0 w.heap.size w u d) {L : List (List Int)} {e : Int} (h : cascR c d = (L, e)) :
    Calls Try.prog 14 #[.agg #[v], .agg #[u]] w (Ret fun r w' => ∃ s, r = .tuple #[.agg #[s], .int .i64 e] ∧ RRows w.heap.size w'.heap.size w' s L ∧ Below w.heap.size w w') := by
  have := c14 hv hu
  rw [h] at this
  exact this
theorem c21r {w : World} {v u : Value} {c d : List (List Int)} (hv : RRows 0 w.heap.size w v c) (hu : RRows 0 w.heap.size w u d) {L : List (List Int)} {e : Int} (h : parR c d = (L, e)) :
    Calls Try.prog 21 #[.agg #[v], .agg #[u]] w (Ret fun r w' => ∃ s, r = .tuple #[.agg #[s], .int .i64 e] ∧ RRows w.heap.size w'.heap.size w' s L ∧ Below w.heap.size w w') := by
  have := c21 hv hu
  rw [h] at this
  exact this
theorem known1 : parR ([[2, 0], [1, 1]] : List (List Int)) ([[2, 0], [1, 1]] : List (List Int)) = (([[4, 0, 0, 0], [1, 1, 1, 1]] : List (List Int)), 0) := by decide
theorem known2 : cascR ([[2, 0], [1, 1]] : List (List Int)) ([[1, 0], [1, 0]] : List (List Int)) = (([[2, 0], [2, 0]] : List (List Int)), 0) := by decide
theorem known3 : cascR ([[2, 0], [1, 1]] : List (List Int)) ([] : List (List Int)) = (([] : List (List Int)), 1) := by decide
theorem c20 {w : World} {v u : Value} {c d : List (List Int)} (hv : RRows 0 w.heap.size w v c) (hu : RRows 0 w.heap.size w u d) {R C : Nat} {T : Int} (hc : Chan c R C T) {R2 C2 : Nat} {T2 : Int} (hd : Chan d R2 C2 T2) (hj : C = R2) :
    Calls Try.prog 20 #[.agg #[v], .agg #[u]] w (Ret fun r w' => ∃ s, r = .agg #[s] ∧ RRows w.heap.size w'.heap.size w' s (cascT c d) ∧ Below w.heap.size w w') := by
  obtain ⟨p, cc, rfl, hl⟩ := hv.form
  obtain ⟨p2, cd, rfl, hl2⟩ := hu.form
  have q1 := hc.rows
  have q2 := hc.r1
  have q3 := hc.r2
  have q4 := hc.c1
  have q5 := hc.c2
  have q6 := hd.rows
  have q7 := hd.r1
  have q8 := hd.r2
  have q9 := hd.c1
  have q0 := hd.c2
  have qw := hc.width 0 (by omega)
  have qv := hd.width 0 (by omega)
  have qp := Nat.mul_le_mul q5 q0
  have hqp : (c[0]!).length * (d[0]!).length = C * C2 := by rw [qw, qv]
  have hB0 : Below w.heap.size w w := Below.refl _ _
  refine Ev.calls (l := [.agg #[.slice p c.length cc], .agg #[.slice p2 d.length cd]]) Try.func20 rfl rfl rfl ?_
  change CW _ _ _ _ [(0, .agg #[.slice p c.length cc]), (1, .agg #[.slice p2 d.length cd])] _
  refine CW.seq ?_
  refine CW.region ?_
  refine RW.newP (cs := #[.slice p c.length cc]) (T := 24) rfl rfl rfl (Yv.box (v := .agg #[.slice p c.length cc]) rfl rfl) ?_
  intro b1 w1 N1
  have lo_b1 : w.heap.size ≤ b1 := by have := hB0.size; have := N1.num; omega
  have hn_b1 := N1.num
  have hs_b1 := N1.size
  have hB1 := Bl.step hB0 N1.below
  refine RW.newP (cs := #[.slice p2 d.length cd]) (T := 24) rfl rfl rfl (Yv.box (v := .agg #[.slice p2 d.length cd]) rfl rfl) ?_
  intro b2 w2 N2
  have ne1 := New.ne N2 N1.blk
  have lo_b2 : w.heap.size ≤ b2 := by have := hB1.size; have := N2.num; omega
  have hn_b2 := N2.num
  have hs_b2 := N2.size
  have hB2 := Bl.step hB1 N2.below
  have hK1 := Blk.below N1.blk N2.below
  refine RW.newP (cs := #[.slice none 0 0]) (T := 24) rfl rfl rfl (Yv.alloc (z := .agg #[.slice none 0 0]) rfl zero24) ?_
  intro b3 w3 N3
  have ne2 := New.ne N3 hK1
  have ne3 := New.ne N3 N2.blk
  have lo_b3 : w.heap.size ≤ b3 := by have := hB2.size; have := N3.num; omega
  have hn_b3 := N3.num
  have hs_b3 := N3.size
  have hB3 := Bl.step hB2 N3.below
  have hK2 := Blk.below hK1 N3.below
  have hK3 := Blk.below N2.blk N3.below
  refine RW.nil ?_
  change CW _ _ _ _ _ _
  refine CW.seq ?_
  refine CW.draw 11 rfl (Kp [b3]) (by kernel_rfl) ?_
  intro w4 H1
  have hB4 := Bl.step hB3 H1
  have hK4 := Blk.below hK2 H1
  have hK5 := Blk.below hK3 H1
  have hK6 := Blk.below N3.blk H1
  have hz1 := H1.size
  have hS1 := Kp.refl [b3] w4
  refine RH.take 0 rfl (by kernel_rfl) rfl rfl rfl hS1 (fun W1 hW1 => Yl.fieldAddr rfl rfl Try.underlying24 rfl sz22) ?_
  refine RH.take 1 rfl (by kernel_rfl) rfl rfl rfl hS1 (fun W2 hW2 => Yl.load rfl rfl one22 (Blk.cell (Kp.blk hW2 hK4 (by simp only [List.mem_cons, List.not_mem_nil, or_false]; omega)) rfl)) ?_
  refine RH.take 2 rfl (by kernel_rfl) rfl rfl rfl hS1 (fun W3 hW3 => Yl.len rfl rfl Try.underlying22) ?_
  refine RH.take 3 rfl (by kernel_rfl) rfl rfl rfl hS1 (fun W4 hW4 => Yl.fieldAddr rfl rfl Try.underlying24 rfl sz22) ?_
  refine RH.take 4 rfl (by kernel_rfl) rfl rfl rfl hS1 (fun W5 hW5 => Yl.load rfl rfl one22 (Blk.cell (Kp.blk hW5 hK5 (by simp only [List.mem_cons, List.not_mem_nil, or_false]; omega)) rfl)) ?_
  obtain ⟨bx1, ox1, px1, cx1, hp1, hl1, hh1, hc1, hx1, hn1⟩ := (hu.mono (kept_from hB0 hB4 (Nat.le_refl _))).at 0 (by omega)
  refine RH.take 5 rfl (by kernel_rfl) rfl rfl rfl hS1 (fun W6 hW6 => Yl.indexAddr1 (k := 0) rfl rfl rfl Try.underlying22 sz31 hp1 rfl (by omega)) ?_
  refine RH.take 6 rfl (by kernel_rfl) rfl rfl rfl hS1 (fun W7 hW7 => Yl.load rfl rfl one31 (Kp.cell hW7 hc1 (by simp only [List.mem_cons, List.not_mem_nil, or_false]; omega))) ?_
  refine RH.take 7 rfl (by kernel_rfl) rfl rfl rfl hS1 (fun W8 hW8 => Yl.len rfl rfl Try.underlying31) ?_
  refine RH.take 8 rfl (by kernel_rfl) rfl rfl rfl hS1 (fun W9 hW9 => Yl.func #[.pointer (some ⟨b2, 0, none⟩), .pointer (some ⟨b1, 0, none⟩)] rfl rfl (args2 rfl rfl)) ?_
  refine RH.one 9 (by kernel_rfl) ?_
  refine RO.fn rfl rfl rfl rfl (Yc.func #[.int .i64 ((c.length : Nat) : Int), .int .i64 (((d[0]!).length : Nat) : Int), .func (.func 45) #[] #[.pointer (some ⟨b2, 0, none⟩), .pointer (some ⟨b1, 0, none⟩)]] rfl ok27 (args3 rfl rfl rfl)) (c27_45 (f := fun x y => sumTo d.length fun k => ((c[x]!)[k]!) * ((d[k]!)[y]!)) (fun hx hy hb => c45 (Blk.below hK5 hb) ((((hu.mono (kept_from hB0 hB4 (Nat.le_refl _))).wide (Nat.zero_le _) (by omega)).mono (kept_below hb (Nat.le_refl _))).wide (Nat.zero_le _) hb.size) (Blk.below hK4 hb) ((((hv.mono (kept_from hB0 hB4 (Nat.le_refl _))).wide (Nat.zero_le _) (by omega)).mono (kept_below hb (Nat.le_refl _))).wide (Nat.zero_le _) hb.size) hc hd hj (by omega) (by omega)) (by omega) (by omega)) ?_
  rintro _ w5 ⟨s1, rfl, hR1, H2⟩
  obtain ⟨ps1, cs1, rfl, hl2⟩ := hR1.form
  have hS2 := Kp.step hS1 H2
  have hB5 := Bl.step hB4 H2
  have hK7 := Blk.below hK4 H2
  have hK8 := Blk.below hK5 H2
  have hK9 := Blk.below hK6 H2
  have hz2 := H2.size
  refine ⟨hS2, ?_⟩
  refine RH.one 10 (by kernel_rfl) ?_
  refine RO.stoAll rfl (cs' := #[.slice ps1 ((tab (c.length) ((d[0]!).length) (fun x y => sumTo d.length fun k => ((c[x]!)[k]!) * ((d[k]!)[y]!))).length) cs1]) rfl rfl hK9 (Yu.storeAll rfl rfl rfl sz24 hK9 rfl (by simp [Value.oneCell'])) ?_
  intro w6 H3
  have hS3 := Kp.sto hS2 H3 (.inl (List.mem_cons_self ..))
  have hB6 := Bl.sto hB5 H3 lo_b3
  have hK10 := Blk.sto hK7 H3 ne2
  have hK11 := Blk.sto hK8 H3 ne3
  have hK12 := H3.blk
  have hR2 := hR1.mono (kept_sto H3 (by omega) (by omega))
  have hz3 := H3.size
  refine ⟨hS3, ?_⟩
  refine RH.done (by kernel_rfl) ?_
  change CW _ _ _ _ _ _
  refine CW.ret ?_
  change FinQ _ _ _ _ _ _
  refine finC (.inr rfl) rfl rfl (run_loadVar_many (cs := [.slice ps1 ((tab (c.length) ((d[0]!).length) (fun x y => sumTo d.length fun k => ((c[x]!)[k]!) * ((d[k]!)[y]!))).length) cs1]) many24 (Blk.cells hK12)) ?_
  exact ⟨_, rfl, _, rfl, hR2.wide (by omega) (by omega), hB6⟩

theorem c23 {w : World} {v u : Value} {c d : List (List Int)} (hv : RRows 0 w.heap.size w v c) (hu : RRows 0 w.heap.size w u d) {R C : Nat} {T : Int} (hc : Chan c R C T) {R2 C2 : Nat} {T2 : Int} (hd : Chan d R2 C2 T2) (hj : R = R2) :
    Calls Try.prog 23 #[.agg #[v], .agg #[u]] w (Ret fun r w' => ∃ s, r = .agg #[s] ∧ RRows w.heap.size w'.heap.size w' s (parT c d) ∧ Below w.heap.size w w') := by
  obtain ⟨p, cc, rfl, hl⟩ := hv.form
  obtain ⟨p2, cd, rfl, hl2⟩ := hu.form
  have q1 := hc.rows
  have q2 := hc.r1
  have q3 := hc.r2
  have q4 := hc.c1
  have q5 := hc.c2
  have q6 := hd.rows
  have q7 := hd.r1
  have q8 := hd.r2
  have q9 := hd.c1
  have q0 := hd.c2
  have qw := hc.width 0 (by omega)
  have qv := hd.width 0 (by omega)
  have qp := Nat.mul_le_mul q5 q0
  have hqp : (c[0]!).length * (d[0]!).length = C * C2 := by rw [qw, qv]
  have hB0 : Below w.heap.size w w := Below.refl _ _
  refine Ev.calls (l := [.agg #[.slice p c.length cc], .agg #[.slice p2 d.length cd]]) Try.func23 rfl rfl rfl ?_
  change CW _ _ _ _ [(0, .agg #[.slice p c.length cc]), (1, .agg #[.slice p2 d.length cd])] _
  refine CW.seq ?_
  refine CW.region ?_
  refine RW.newP (cs := #[.slice p c.length cc]) (T := 24) rfl rfl rfl (Yv.box (v := .agg #[.slice p c.length cc]) rfl rfl) ?_
  intro b1 w1 N1
  have lo_b1 : w.heap.size ≤ b1 := by have := hB0.size; have := N1.num; omega
  have hn_b1 := N1.num
  have hs_b1 := N1.size
  have hB1 := Bl.step hB0 N1.below
  refine RW.newP (cs := #[.slice p2 d.length cd]) (T := 24) rfl rfl rfl (Yv.box (v := .agg #[.slice p2 d.length cd]) rfl rfl) ?_
  intro b2 w2 N2
  have ne1 := New.ne N2 N1.blk
  have lo_b2 : w.heap.size ≤ b2 := by have := hB1.size; have := N2.num; omega
  have hn_b2 := N2.num
  have hs_b2 := N2.size
  have hB2 := Bl.step hB1 N2.below
  have hK1 := Blk.below N1.blk N2.below
  refine RW.newP (cs := #[.slice none 0 0]) (T := 24) rfl rfl rfl (Yv.alloc (z := .agg #[.slice none 0 0]) rfl zero24) ?_
  intro b3 w3 N3
  have ne2 := New.ne N3 hK1
  have ne3 := New.ne N3 N2.blk
  have lo_b3 : w.heap.size ≤ b3 := by have := hB2.size; have := N3.num; omega
  have hn_b3 := N3.num
  have hs_b3 := N3.size
  have hB3 := Bl.step hB2 N3.below
  have hK2 := Blk.below hK1 N3.below
  have hK3 := Blk.below N2.blk N3.below
  refine RW.nil ?_
  change CW _ _ _ _ _ _
  refine CW.seq ?_
  refine CW.region ?_
  refine RW.yl rfl rfl rfl (Yl.fieldAddr rfl rfl Try.underlying24 rfl sz22) ?_
  refine RW.yl rfl rfl rfl (Yl.load rfl rfl one22 (Blk.cell hK3 rfl)) ?_
  obtain ⟨bx1, ox1, px1, cx1, hp1, hl1, hh1, hc1, hx1, hn1⟩ := (hu.mono (kept_from hB0 hB3 (Nat.le_refl _))).at 0 (by omega)
  refine RW.yl rfl rfl rfl (Yl.indexAddr1 (k := 0) rfl rfl rfl Try.underlying22 sz31 hp1 rfl (by omega)) ?_
  refine RW.yl rfl rfl rfl (Yl.load rfl rfl one31 hc1) ?_
  refine RW.yl rfl rfl rfl (Yl.len rfl rfl Try.underlying31) ?_
  refine RW.newP (cs := #[.int .i64 0]) (T := 3) rfl rfl rfl (Yv.alloc (z := .int .i64 0) rfl zero3) ?_
  intro b4 w4 N4
  have ne4 := New.ne N4 hK2
  have ne5 := New.ne N4 hK3
  have ne6 := New.ne N4 N3.blk
  have lo_b4 : w.heap.size ≤ b4 := by have := hB3.size; have := N4.num; omega
  have hn_b4 := N4.num
  have hs_b4 := N4.size
  have hB4 := Bl.step hB3 N4.below
  have hK4 := Blk.below hK2 N4.below
  have hK5 := Blk.below hK3 N4.below
  have hK6 := Blk.below N3.blk N4.below
  refine RW.sto (v := .int .i64 (((d[0]!).length : Nat) : Int)) (i := 0) rfl rfl N4.blk (Yu.store rfl rfl rfl rfl rfl sz3 N4.blk (by simp)) ?_
  intro w5 H1
  have hB5 := Bl.sto hB4 H1 lo_b4
  have hK7 := Blk.sto hK4 H1 ne4
  have hK8 := Blk.sto hK5 H1 ne5
  have hK9 := Blk.sto hK6 H1 ne6
  have hK10 := H1.blk
  have hz1 := H1.size
  refine RW.nil ?_
  change CW _ _ _ _ _ _
  refine CW.seq ?_
  refine CW.draw 13 rfl (Kp [b3]) (by kernel_rfl) ?_
  intro w6 H2
  have hB6 := Bl.step hB5 H2
  have hK11 := Blk.below hK7 H2
  have hK12 := Blk.below hK8 H2
  have hK13 := Blk.below hK9 H2
  have hK14 := Blk.below hK10 H2
  have hz2 := H2.size
  have hS1 := Kp.refl [b3] w6
  refine RH.take 0 rfl (by kernel_rfl) rfl rfl rfl hS1 (fun W1 hW1 => Yl.fieldAddr rfl rfl Try.underlying24 rfl sz22) ?_
  refine RH.take 1 rfl (by kernel_rfl) rfl rfl rfl hS1 (fun W2 hW2 => Yl.load rfl rfl one22 (Blk.cell (Kp.blk hW2 hK11 (by simp only [List.mem_cons, List.not_mem_nil, or_false]; omega)) rfl)) ?_
  refine RH.take 2 rfl (by kernel_rfl) rfl rfl rfl hS1 (fun W3 hW3 => Yl.len rfl rfl Try.underlying22) ?_
  refine RH.take 3 rfl (by kernel_rfl) rfl rfl rfl hS1 (fun W4 hW4 => Yl.fieldAddr rfl rfl Try.underlying24 rfl sz22) ?_
  refine RH.take 4 rfl (by kernel_rfl) rfl rfl rfl hS1 (fun W5 hW5 => Yl.load rfl rfl one22 (Blk.cell (Kp.blk hW5 hK11 (by simp only [List.mem_cons, List.not_mem_nil, or_false]; omega)) rfl)) ?_
  obtain ⟨bx2, ox2, px2, cx2, hp2, hl2, hh2, hc2, hx2, hn2⟩ := (hv.mono (kept_from hB0 hB6 (Nat.le_refl _))).at 0 (by omega)
  refine RH.take 5 rfl (by kernel_rfl) rfl rfl rfl hS1 (fun W6 hW6 => Yl.indexAddr1 (k := 0) rfl rfl rfl Try.underlying22 sz31 hp2 rfl (by omega)) ?_
  refine RH.take 6 rfl (by kernel_rfl) rfl rfl rfl hS1 (fun W7 hW7 => Yl.load rfl rfl one31 (Kp.cell hW7 hc2 (by simp only [List.mem_cons, List.not_mem_nil, or_false]; omega))) ?_
  refine RH.take 7 rfl (by kernel_rfl) rfl rfl rfl hS1 (fun W8 hW8 => Yl.len rfl rfl Try.underlying31) ?_
  refine RH.take 8 rfl (by kernel_rfl) rfl rfl rfl hS1 (fun W9 hW9 => Yl.load rfl rfl one3 (Blk.cell (Kp.blk hW9 hK14 (by simp only [List.mem_cons, List.not_mem_nil, or_false]; omega)) rfl)) ?_
  refine RH.take 9 rfl (by kernel_rfl) rfl rfl rfl hS1 (fun W10 hW10 => Yl.mulN (a := (c[0]!).length) (b := (d[0]!).length) rfl rfl rfl (by omega)) ?_
  refine RH.take 10 rfl (by kernel_rfl) rfl rfl rfl hS1 (fun W11 hW11 => Yl.func #[.pointer (some ⟨b1, 0, none⟩), .pointer (some ⟨b4, 0, none⟩), .pointer (some ⟨b2, 0, none⟩)] rfl rfl (args3 rfl rfl rfl)) ?_
  refine RH.one 11 (by kernel_rfl) ?_
  refine RO.fn rfl rfl rfl rfl (Yc.func #[.int .i64 ((c.length : Nat) : Int), .int .i64 ((((c[0]!).length) * ((d[0]!).length) : Nat) : Int), .func (.func 47) #[] #[.pointer (some ⟨b1, 0, none⟩), .pointer (some ⟨b4, 0, none⟩), .pointer (some ⟨b2, 0, none⟩)]] rfl ok27 (args3 rfl rfl rfl)) (c27_47 (f := fun x y => ((c[x]!)[y / (d[0]!).length]!) * ((d[x]!)[y % (d[0]!).length]!)) (fun hx hy hb => c47 (Blk.below hK11 hb) ((((hv.mono (kept_from hB0 hB6 (Nat.le_refl _))).wide (Nat.zero_le _) (by omega)).mono (kept_below hb (Nat.le_refl _))).wide (Nat.zero_le _) hb.size) (Blk.below hK14 hb) (Blk.below hK12 hb) ((((hu.mono (kept_from hB0 hB6 (Nat.le_refl _))).wide (Nat.zero_le _) (by omega)).mono (kept_below hb (Nat.le_refl _))).wide (Nat.zero_le _) hb.size) hc hd qv (by omega) (by omega) (by rw [← hqp]; omega)) (by omega) (by omega)) ?_
  rintro _ w7 ⟨s1, rfl, hR1, H3⟩
  obtain ⟨ps1, cs1, rfl, hl3⟩ := hR1.form
  have hS2 := Kp.step hS1 H3
  have hB7 := Bl.step hB6 H3
  have hK15 := Blk.below hK11 H3
  have hK16 := Blk.below hK12 H3
  have hK17 := Blk.below hK13 H3
  have hK18 := Blk.below hK14 H3
  have hz3 := H3.size
  refine ⟨hS2, ?_⟩
  refine RH.one 12 (by kernel_rfl) ?_
  refine RO.stoAll rfl (cs' := #[.slice ps1 ((tab (c.length) (((c[0]!).length) * ((d[0]!).length)) (fun x y => ((c[x]!)[y / (d[0]!).length]!) * ((d[x]!)[y % (d[0]!).length]!))).length) cs1]) rfl rfl hK17 (Yu.storeAll rfl rfl rfl sz24 hK17 rfl (by simp [Value.oneCell'])) ?_
  intro w8 H4
  have hS3 := Kp.sto hS2 H4 (.inl (List.mem_cons_self ..))
  have hB8 := Bl.sto hB7 H4 lo_b3
  have hK19 := Blk.sto hK15 H4 ne2
  have hK20 := Blk.sto hK16 H4 ne3
  have hK21 := H4.blk
  have hK22 := Blk.sto hK18 H4 ne6.symm
  have hR2 := hR1.mono (kept_sto H4 (by omega) (by omega))
  have hz4 := H4.size
  refine ⟨hS3, ?_⟩
  refine RH.done (by kernel_rfl) ?_
  change CW _ _ _ _ _ _
  refine CW.ret ?_
  change FinQ _ _ _ _ _ _
  refine finC (.inr rfl) rfl rfl (run_loadVar_many (cs := [.slice ps1 ((tab (c.length) (((c[0]!).length) * ((d[0]!).length)) (fun x y => ((c[x]!)[y / (d[0]!).length]!) * ((d[x]!)[y % (d[0]!).length]!))).length) cs1]) many24 (Blk.cells hK21)) ?_
  exact ⟨_, rfl, _, rfl, hR2.wide (by omega) (by omega), hB8⟩

theorem c12 {w : World} :
    Calls Try.prog 12 #[] w (Ret fun r w' => r = .bool true ∧ Below w.heap.size w w') := by
  have hB0 : Below w.heap.size w w := Below.refl _ _
  refine Ev.calls (l := []) Try.func12 rfl rfl rfl ?_
  change CW _ _ _ _ [] _
  refine CW.seq ?_
  refine CW.region ?_
  refine RW.yl rfl rfl rfl (Yl.assign rfl rfl) ?_
  refine RW.nil ?_
  change CW _ _ _ _ _ _
  refine CW.seq ?_
  refine CW.region ?_
  refine RW.newS (cs := #[.int .i64 2, .int .i64 0]) (T := 3) (l := 2) (c := 2) rfl rfl rfl (Yv.lit2 rfl rfl rfl rfl rfl Try.underlying31 mkx3) ?_
  intro b1 w1 N1
  have lo_b1 : w.heap.size ≤ b1 := by have := hB0.size; have := N1.num; omega
  have hn_b1 := N1.num
  have hs_b1 := N1.size
  have hB1 := Bl.step hB0 N1.below
  have hR1 : RInts w.heap.size w1.heap.size w1 (.slice (some ⟨b1, 0, none⟩) 2 2) ([2, 0] : List Int) := RInts.ofBlk (l := ([2, 0] : List Int)) N1.blk rfl lo_b1 (Blk.lt N1.blk) (by decide)
  refine RW.newS (cs := #[.int .i64 1, .int .i64 1]) (T := 3) (l := 2) (c := 2) rfl rfl rfl (Yv.lit2 rfl rfl rfl rfl rfl Try.underlying31 mkx3) ?_
  intro b2 w2 N2
  have lo_b2 : w.heap.size ≤ b2 := by have := hB1.size; have := N2.num; omega
  have hn_b2 := N2.num
  have hs_b2 := N2.size
  have hB2 := Bl.step hB1 N2.below
  have hR2 := hR1.mono (kept_below N2.below (by omega))
  have hR3 : RInts w.heap.size w2.heap.size w2 (.slice (some ⟨b2, 0, none⟩) 2 2) ([1, 1] : List Int) := RInts.ofBlk (l := ([1, 1] : List Int)) N2.blk rfl lo_b2 (Blk.lt N2.blk) (by decide)
  refine RW.newS (cs := #[.slice (some ⟨b1, 0, none⟩) 2 2, .slice (some ⟨b2, 0, none⟩) 2 2]) (T := 31) (l := 2) (c := 2) rfl rfl rfl (Yv.lit2 rfl rfl rfl rfl rfl Try.underlying22 mkx31) ?_
  intro b3 w3 N3
  have lo_b3 : w.heap.size ≤ b3 := by have := hB2.size; have := N3.num; omega
  have hn_b3 := N3.num
  have hs_b3 := N3.size
  have hB3 := Bl.step hB2 N3.below
  have hR4 := hR2.mono (kept_below N3.below (by omega))
  have hR5 := hR3.mono (kept_below N3.below (by omega))
  have hR6 : RRows w.heap.size w3.heap.size w3 (.slice (some ⟨b3, 0, none⟩) 2 2) ([[2, 0], [1, 1]] : List (List Int)) := RRows.lit2 N3.blk (hR4.wide (Nat.le_refl _) (by omega)) (hR5.wide (Nat.le_refl _) (by omega)) lo_b3 (Blk.lt N3.blk)
  refine RW.yl rfl rfl rfl (Yl.build1 rfl rfl (built124 _ _ _)) ?_
  refine RW.newP (cs := #[.slice none 0 0]) (T := 24) rfl rfl rfl (Yv.alloc (z := .agg #[.slice none 0 0]) rfl zero24) ?_
  intro b4 w4 N4
  have lo_b4 : w.heap.size ≤ b4 := by have := hB3.size; have := N4.num; omega
  have hn_b4 := N4.num
  have hs_b4 := N4.size
  have hB4 := Bl.step hB3 N4.below
  have hR7 := hR6.mono (kept_below N4.below (by omega))
  refine RW.stoAll (cs' := #[.slice (some ⟨b3, 0, none⟩) 2 2]) rfl rfl N4.blk (Yu.storeAll rfl rfl rfl sz24 N4.blk rfl (by simp [Value.oneCell'])) ?_
  intro w5 H1
  have hB5 := Bl.sto hB4 H1 lo_b4
  have hK1 := H1.blk
  have hR8 := hR7.mono (kept_sto H1 (by omega) (by omega))
  have hz1 := H1.size
  refine RW.nil ?_
  change CW _ _ _ _ _ _
  refine CW.seq ?_
  refine CW.region ?_
  refine RW.newS (cs := #[.int .i64 1, .int .i64 0]) (T := 3) (l := 2) (c := 2) rfl rfl rfl (Yv.lit2 rfl rfl rfl rfl rfl Try.underlying31 mkx3) ?_
  intro b5 w6 N5
  have ne1 := New.ne N5 hK1
  have lo_b5 : w.heap.size ≤ b5 := by have := hB5.size; have := N5.num; omega
  have hn_b5 := N5.num
  have hs_b5 := N5.size
  have hB6 := Bl.step hB5 N5.below
  have hK2 := Blk.below hK1 N5.below
  have hR9 := hR8.mono (kept_below N5.below (by omega))
  have hR10 : RInts w.heap.size w6.heap.size w6 (.slice (some ⟨b5, 0, none⟩) 2 2) ([1, 0] : List Int) := RInts.ofBlk (l := ([1, 0] : List Int)) N5.blk rfl lo_b5 (Blk.lt N5.blk) (by decide)
  refine RW.newS (cs := #[.int .i64 1, .int .i64 0]) (T := 3) (l := 2) (c := 2) rfl rfl rfl (Yv.lit2 rfl rfl rfl rfl rfl Try.underlying31 mkx3) ?_
  intro b6 w7 N6
  have ne2 := New.ne N6 hK2
  have lo_b6 : w.heap.size ≤ b6 := by have := hB6.size; have := N6.num; omega
  have hn_b6 := N6.num
  have hs_b6 := N6.size
  have hB7 := Bl.step hB6 N6.below
  have hK3 := Blk.below hK2 N6.below
  have hR11 := hR9.mono (kept_below N6.below (by omega))
  have hR12 := hR10.mono (kept_below N6.below (by omega))
  have hR13 : RInts w.heap.size w7.heap.size w7 (.slice (some ⟨b6, 0, none⟩) 2 2) ([1, 0] : List Int) := RInts.ofBlk (l := ([1, 0] : List Int)) N6.blk rfl lo_b6 (Blk.lt N6.blk) (by decide)
  refine RW.newS (cs := #[.slice (some ⟨b5, 0, none⟩) 2 2, .slice (some ⟨b6, 0, none⟩) 2 2]) (T := 31) (l := 2) (c := 2) rfl rfl rfl (Yv.lit2 rfl rfl rfl rfl rfl Try.underlying22 mkx31) ?_
  intro b7 w8 N7
  have ne3 := New.ne N7 hK3
  have lo_b7 : w.heap.size ≤ b7 := by have := hB7.size; have := N7.num; omega
  have hn_b7 := N7.num
  have hs_b7 := N7.size
  have hB8 := Bl.step hB7 N7.below
  have hK4 := Blk.below hK3 N7.below
  have hR14 := hR11.mono (kept_below N7.below (by omega))
  have hR15 := hR12.mono (kept_below N7.below (by omega))
  have hR16 := hR13.mono (kept_below N7.below (by omega))
  have hR17 : RRows w.heap.size w8.heap.size w8 (.slice (some ⟨b7, 0, none⟩) 2 2) ([[1, 0], [1, 0]] : List (List Int)) := RRows.lit2 N7.blk (hR15.wide (Nat.le_refl _) (by omega)) (hR16.wide (Nat.le_refl _) (by omega)) lo_b7 (Blk.lt N7.blk)
  refine RW.yl rfl rfl rfl (Yl.build1 rfl rfl (built124 _ _ _)) ?_
  refine RW.newP (cs := #[.slice none 0 0]) (T := 24) rfl rfl rfl (Yv.alloc (z := .agg #[.slice none 0 0]) rfl zero24) ?_
  intro b8 w9 N8
  have ne4 := New.ne N8 hK4
  have lo_b8 : w.heap.size ≤ b8 := by have := hB8.size; have := N8.num; omega
  have hn_b8 := N8.num
  have hs_b8 := N8.size
  have hB9 := Bl.step hB8 N8.below
  have hK5 := Blk.below hK4 N8.below
  have hR18 := hR14.mono (kept_below N8.below (by omega))
  have hR19 := hR17.mono (kept_below N8.below (by omega))
  refine RW.stoAll (cs' := #[.slice (some ⟨b7, 0, none⟩) 2 2]) rfl rfl N8.blk (Yu.storeAll rfl rfl rfl sz24 N8.blk rfl (by simp [Value.oneCell'])) ?_
  intro w10 H2
  have hB10 := Bl.sto hB9 H2 lo_b8
  have hK6 := Blk.sto hK5 H2 ne4
  have hK7 := H2.blk
  have hR20 := hR18.mono (kept_sto H2 (by omega) (by omega))
  have hR21 := hR19.mono (kept_sto H2 (by omega) (by omega))
  have hz2 := H2.size
  refine RW.nil ?_
  change CW _ _ _ _ _ _
  refine CW.seq ?_
  refine CW.region ?_
  refine RW.yl rfl rfl rfl (Yl.loadAgg (cs := [.slice (some ⟨b3, 0, none⟩) 2 2]) rfl rfl many24 (Blk.cells hK6)) ?_
  refine RW.yl rfl rfl rfl (Yl.loadAgg (cs := [.slice (some ⟨b3, 0, none⟩) 2 2]) rfl rfl many24 (Blk.cells hK6)) ?_
  refine RW.fn rfl rfl rfl (Yc.func #[.agg #[.slice (some ⟨b3, 0, none⟩) 2 2], .agg #[.slice (some ⟨b3, 0, none⟩) 2 2]] rfl ok21 (args2 rfl rfl)) (c21r (hR20.wide (Nat.zero_le _) (by omega)) (hR20.wide (Nat.zero_le _) (by omega)) known1) ?_
  rintro _ w11 ⟨s1, rfl, hR22, H3⟩
  obtain ⟨ps1, cs1, rfl, hl1⟩ := hR22.form
  have hB11 := Bl.step hB10 H3
  have hK8 := Blk.below hK6 H3
  have hK9 := Blk.below hK7 H3
  have hR23 := hR20.mono (kept_below H3 (by omega))
  have hR24 := hR21.mono (kept_below H3 (by omega))
  have hz3 := H3.size
  refine RW.yl rfl rfl rfl (Yl.move rfl rfl) ?_
  refine RW.yl rfl rfl rfl (Yl.extract rfl rfl rfl) ?_
  refine RW.yl rfl rfl rfl (Yl.extract rfl rfl rfl) ?_
  refine RW.newP (cs := #[.slice none 0 0]) (T := 24) rfl rfl rfl (Yv.alloc (z := .agg #[.slice none 0 0]) rfl zero24) ?_
  intro b9 w12 N9
  have ne5 := New.ne N9 hK8
  have ne6 := New.ne N9 hK9
  have lo_b9 : w.heap.size ≤ b9 := by have := hB11.size; have := N9.num; omega
  have hn_b9 := N9.num
  have hs_b9 := N9.size
  have hB12 := Bl.step hB11 N9.below
  have hK10 := Blk.below hK8 N9.below
  have hK11 := Blk.below hK9 N9.below
  have hR25 := hR23.mono (kept_below N9.below (by omega))
  have hR26 := hR24.mono (kept_below N9.below (by omega))
  have hR27 := hR22.mono (kept_below N9.below (by omega))
  refine RW.stoAll (cs' := #[.slice ps1 (([[4, 0, 0, 0], [1, 1, 1, 1]] : List (List Int)).length) cs1]) rfl rfl N9.blk (Yu.storeAll rfl rfl rfl sz24 N9.blk rfl (by simp [Value.oneCell'])) ?_
  intro w13 H4
  have hB13 := Bl.sto hB12 H4 lo_b9
  have hK12 := Blk.sto hK10 H4 ne5
  have hK13 := Blk.sto hK11 H4 ne6
  have hK14 := H4.blk
  have hR28 := hR25.mono (kept_sto H4 (by omega) (by omega))
  have hR29 := hR26.mono (kept_sto H4 (by omega) (by omega))
  have hR30 := hR27.mono (kept_sto H4 (by omega) (by omega))
  have hz4 := H4.size
  refine RW.yl rfl rfl rfl (Yl.assign rfl rfl) ?_
  refine RW.nil ?_
  change CW _ _ _ _ _ _
  refine CW.seq ?_
  refine CW.region ?_
  refine RW.yl rfl rfl rfl (Yl.loadAgg (cs := [.slice (some ⟨b3, 0, none⟩) 2 2]) rfl rfl many24 (Blk.cells hK12)) ?_
  refine RW.yl rfl rfl rfl (Yl.loadAgg (cs := [.slice (some ⟨b7, 0, none⟩) 2 2]) rfl rfl many24 (Blk.cells hK13)) ?_
  refine RW.fn rfl rfl rfl (Yc.func #[.agg #[.slice (some ⟨b3, 0, none⟩) 2 2], .agg #[.slice (some ⟨b7, 0, none⟩) 2 2]] rfl ok14 (args2 rfl rfl)) (c14r (hR28.wide (Nat.zero_le _) (by omega)) (hR29.wide (Nat.zero_le _) (by omega)) known2) ?_
  rintro _ w14 ⟨s2, rfl, hR31, H5⟩
  obtain ⟨ps2, cs2, rfl, hl2⟩ := hR31.form
  have hB14 := Bl.step hB13 H5
  have hK15 := Blk.below hK12 H5
  have hK16 := Blk.below hK13 H5
  have hK17 := Blk.below hK14 H5
  have hR32 := hR28.mono (kept_below H5 (by omega))
  have hR33 := hR29.mono (kept_below H5 (by omega))
  have hR34 := hR30.mono (kept_below H5 (by omega))
  have hz5 := H5.size
  refine RW.yl rfl rfl rfl (Yl.move rfl rfl) ?_
  refine RW.yl rfl rfl rfl (Yl.extract rfl rfl rfl) ?_
  refine RW.yl rfl rfl rfl (Yl.extract rfl rfl rfl) ?_
  refine RW.newP (cs := #[.slice none 0 0]) (T := 24) rfl rfl rfl (Yv.alloc (z := .agg #[.slice none 0 0]) rfl zero24) ?_
  intro b10 w15 N10
  have ne7 := New.ne N10 hK15
  have ne8 := New.ne N10 hK16
  have ne9 := New.ne N10 hK17
  have lo_b10 : w.heap.size ≤ b10 := by have := hB14.size; have := N10.num; omega
  have hn_b10 := N10.num
  have hs_b10 := N10.size
  have hB15 := Bl.step hB14 N10.below
  have hK18 := Blk.below hK15 N10.below
  have hK19 := Blk.below hK16 N10.below
  have hK20 := Blk.below hK17 N10.below
  have hR35 := hR32.mono (kept_below N10.below (by omega))
  have hR36 := hR33.mono (kept_below N10.below (by omega))
  have hR37 := hR34.mono (kept_below N10.below (by omega))
  have hR38 := hR31.mono (kept_below N10.below (by omega))
  refine RW.stoAll (cs' := #[.slice ps2 (([[2, 0], [2, 0]] : List (List Int)).length) cs2]) rfl rfl N10.blk (Yu.storeAll rfl rfl rfl sz24 N10.blk rfl (by simp [Value.oneCell'])) ?_
  intro w16 H6
  have hB16 := Bl.sto hB15 H6 lo_b10
  have hK21 := Blk.sto hK18 H6 ne7
  have hK22 := Blk.sto hK19 H6 ne8
  have hK23 := Blk.sto hK20 H6 ne9
  have hK24 := H6.blk
  have hR39 := hR35.mono (kept_sto H6 (by omega) (by omega))
  have hR40 := hR36.mono (kept_sto H6 (by omega) (by omega))
  have hR41 := hR37.mono (kept_sto H6 (by omega) (by omega))
  have hR42 := hR38.mono (kept_sto H6 (by omega) (by omega))
  have hz6 := H6.size
  refine RW.yl rfl rfl rfl (Yl.assign rfl rfl) ?_
  refine RW.nil ?_
  change CW _ _ _ _ _ _
  refine CW.seq ?_
  refine CW.region ?_
  refine RW.yl rfl rfl rfl (Yl.loadAgg (cs := [.slice (some ⟨b3, 0, none⟩) 2 2]) rfl rfl many24 (Blk.cells hK21)) ?_
  refine RW.yl rfl rfl rfl (Yl.build0 rfl rfl built24) ?_
  refine RW.fn rfl rfl rfl (Yc.func #[.agg #[.slice (some ⟨b3, 0, none⟩) 2 2], .agg #[.slice none 0 0]] rfl ok14 (args2 rfl rfl)) (c14r (hR39.wide (Nat.zero_le _) (by omega)) (Sl.nil _ _ _ _) known3) ?_
  rintro _ w17 ⟨s3, rfl, hR43, H7⟩
  obtain ⟨ps3, cs3, rfl, hl3⟩ := hR43.form
  have hB17 := Bl.step hB16 H7
  have hK25 := Blk.below hK21 H7
  have hK26 := Blk.below hK22 H7
  have hK27 := Blk.below hK23 H7
  have hK28 := Blk.below hK24 H7
  have hR44 := hR39.mono (kept_below H7 (by omega))
  have hR45 := hR40.mono (kept_below H7 (by omega))
  have hR46 := hR41.mono (kept_below H7 (by omega))
  have hR47 := hR42.mono (kept_below H7 (by omega))
  have hz7 := H7.size
  refine RW.yl rfl rfl rfl (Yl.move rfl rfl) ?_
  refine RW.yl rfl rfl rfl (Yl.extract rfl rfl rfl) ?_
  refine RW.yl rfl rfl rfl (Yl.extract rfl rfl rfl) ?_
  refine RW.newP (cs := #[.slice none 0 0]) (T := 24) rfl rfl rfl (Yv.alloc (z := .agg #[.slice none 0 0]) rfl zero24) ?_
  intro b11 w18 N11
  have ne10 := New.ne N11 hK25
  have ne11 := New.ne N11 hK26
  have ne12 := New.ne N11 hK27
  have ne13 := New.ne N11 hK28
  have lo_b11 : w.heap.size ≤ b11 := by have := hB17.size; have := N11.num; omega
  have hn_b11 := N11.num
  have hs_b11 := N11.size
  have hB18 := Bl.step hB17 N11.below
  have hK29 := Blk.below hK25 N11.below
  have hK30 := Blk.below hK26 N11.below
  have hK31 := Blk.below hK27 N11.below
  have hK32 := Blk.below hK28 N11.below
  have hR48 := hR44.mono (kept_below N11.below (by omega))
  have hR49 := hR45.mono (kept_below N11.below (by omega))
  have hR50 := hR46.mono (kept_below N11.below (by omega))
  have hR51 := hR47.mono (kept_below N11.below (by omega))
  have hR52 := hR43.mono (kept_below N11.below (by omega))
  refine RW.stoAll (cs' := #[.slice ps3 (([] : List (List Int)).length) cs3]) rfl rfl N11.blk (Yu.storeAll rfl rfl rfl sz24 N11.blk rfl (by simp [Value.oneCell'])) ?_
  intro w19 H8
  have hB19 := Bl.sto hB18 H8 lo_b11
  have hK33 := Blk.sto hK29 H8 ne10
  have hK34 := Blk.sto hK30 H8 ne11
  have hK35 := Blk.sto hK31 H8 ne12
  have hK36 := Blk.sto hK32 H8 ne13
  have hK37 := H8.blk
  have hR53 := hR48.mono (kept_sto H8 (by omega) (by omega))
  have hR54 := hR49.mono (kept_sto H8 (by omega) (by omega))
  have hR55 := hR50.mono (kept_sto H8 (by omega) (by omega))
  have hR56 := hR51.mono (kept_sto H8 (by omega) (by omega))
  have hR57 := hR52.mono (kept_sto H8 (by omega) (by omega))
  have hz8 := H8.size
  refine RW.yl rfl rfl rfl (Yl.assign rfl rfl) ?_
  refine RW.nil ?_
  change CW _ _ _ _ _ _
  refine CW.seq ?_
  refine CW.region ?_
  refine RW.yl rfl rfl rfl (Yl.move rfl rfl) ?_
  refine RW.yl rfl rfl rfl (Yl.eqb (Yl.eql rfl rfl rfl) (show decide ((0 : Int) = 0) = true by decide)) ?_
  refine RW.yl rfl rfl rfl (Yl.move rfl rfl) ?_
  refine RW.yl rfl rfl rfl (Yl.loadAgg (cs := [.slice ps1 (([[4, 0, 0, 0], [1, 1, 1, 1]] : List (List Int)).length) cs1]) rfl rfl many24 (Blk.cells hK35)) ?_
  refine RW.newS (cs := #[.int .i64 4, .int .i64 0, .int .i64 0, .int .i64 0]) (T := 3) (l := 4) (c := 4) rfl rfl rfl (Yv.lit4 rfl rfl rfl rfl rfl rfl rfl rfl rfl Try.underlying31 mkx3) ?_
  intro b12 w20 N12
  have ne14 := New.ne N12 hK33
  have ne15 := New.ne N12 hK34
  have ne16 := New.ne N12 hK35
  have ne17 := New.ne N12 hK36
  have ne18 := New.ne N12 hK37
  have lo_b12 : w.heap.size ≤ b12 := by have := hB19.size; have := N12.num; omega
  have hn_b12 := N12.num
  have hs_b12 := N12.size
  have hB20 := Bl.step hB19 N12.below
  have hK38 := Blk.below hK33 N12.below
  have hK39 := Blk.below hK34 N12.below
  have hK40 := Blk.below hK35 N12.below
  have hK41 := Blk.below hK36 N12.below
  have hK42 := Blk.below hK37 N12.below
  have hR58 := hR53.mono (kept_below N12.below (by omega))
  have hR59 := hR54.mono (kept_below N12.below (by omega))
  have hR60 := hR55.mono (kept_below N12.below (by omega))
  have hR61 := hR56.mono (kept_below N12.below (by omega))
  have hR62 := hR57.mono (kept_below N12.below (by omega))
  have hR63 : RInts w.heap.size w20.heap.size w20 (.slice (some ⟨b12, 0, none⟩) 4 4) ([4, 0, 0, 0] : List Int) := RInts.ofBlk (l := ([4, 0, 0, 0] : List Int)) N12.blk rfl lo_b12 (Blk.lt N12.blk) (by decide)
  refine RW.newS (cs := #[.int .i64 1, .int .i64 1, .int .i64 1, .int .i64 1]) (T := 3) (l := 4) (c := 4) rfl rfl rfl (Yv.lit4 rfl rfl rfl rfl rfl rfl rfl rfl rfl Try.underlying31 mkx3) ?_
  intro b13 w21 N13
  have ne19 := New.ne N13 hK38
  have ne20 := New.ne N13 hK39
  have ne21 := New.ne N13 hK40
  have ne22 := New.ne N13 hK41
  have ne23 := New.ne N13 hK42
  have lo_b13 : w.heap.size ≤ b13 := by have := hB20.size; have := N13.num; omega
  have hn_b13 := N13.num
  have hs_b13 := N13.size
  have hB21 := Bl.step hB20 N13.below
  have hK43 := Blk.below hK38 N13.below
  have hK44 := Blk.below hK39 N13.below
  have hK45 := Blk.below hK40 N13.below
  have hK46 := Blk.below hK41 N13.below
  have hK47 := Blk.below hK42 N13.below
  have hR64 := hR58.mono (kept_below N13.below (by omega))
  have hR65 := hR59.mono (kept_below N13.below (by omega))
  have hR66 := hR60.mono (kept_below N13.below (by omega))
  have hR67 := hR61.mono (kept_below N13.below (by omega))
  have hR68 := hR62.mono (kept_below N13.below (by omega))
  have hR69 := hR63.mono (kept_below N13.below (by omega))
  have hR70 : RInts w.heap.size w21.heap.size w21 (.slice (some ⟨b13, 0, none⟩) 4 4) ([1, 1, 1, 1] : List Int) := RInts.ofBlk (l := ([1, 1, 1, 1] : List Int)) N13.blk rfl lo_b13 (Blk.lt N13.blk) (by decide)
  refine RW.newS (cs := #[.slice (some ⟨b12, 0, none⟩) 4 4, .slice (some ⟨b13, 0, none⟩) 4 4]) (T := 31) (l := 2) (c := 2) rfl rfl rfl (Yv.lit2 rfl rfl rfl rfl rfl Try.underlying22 mkx31) ?_
  intro b14 w22 N14
  have ne24 := New.ne N14 hK43
  have ne25 := New.ne N14 hK44
  have ne26 := New.ne N14 hK45
  have ne27 := New.ne N14 hK46
  have ne28 := New.ne N14 hK47
  have lo_b14 : w.heap.size ≤ b14 := by have := hB21.size; have := N14.num; omega
  have hn_b14 := N14.num
  have hs_b14 := N14.size
  have hB22 := Bl.step hB21 N14.below
  have hK48 := Blk.below hK43 N14.below
  have hK49 := Blk.below hK44 N14.below
  have hK50 := Blk.below hK45 N14.below
  have hK51 := Blk.below hK46 N14.below
  have hK52 := Blk.below hK47 N14.below
  have hR71 := hR64.mono (kept_below N14.below (by omega))
  have hR72 := hR65.mono (kept_below N14.below (by omega))
  have hR73 := hR66.mono (kept_below N14.below (by omega))
  have hR74 := hR67.mono (kept_below N14.below (by omega))
  have hR75 := hR68.mono (kept_below N14.below (by omega))
  have hR76 := hR69.mono (kept_below N14.below (by omega))
  have hR77 := hR70.mono (kept_below N14.below (by omega))
  have hR78 : RRows w.heap.size w22.heap.size w22 (.slice (some ⟨b14, 0, none⟩) 2 2) ([[4, 0, 0, 0], [1, 1, 1, 1]] : List (List Int)) := RRows.lit2 N14.blk (hR76.wide (Nat.le_refl _) (by omega)) (hR77.wide (Nat.le_refl _) (by omega)) lo_b14 (Blk.lt N14.blk)
  refine RW.yl rfl rfl rfl (Yl.build1 rfl rfl (built124 _ _ _)) ?_
  refine RW.fn rfl rfl rfl (Yc.func #[.agg #[.slice ps1 (([[4, 0, 0, 0], [1, 1, 1, 1]] : List (List Int)).length) cs1], .agg #[.slice (some ⟨b14, 0, none⟩) 2 2]] rfl ok19 (args2 rfl rfl)) (c19 (hR73.wide (Nat.zero_le _) (by omega)) (hR78.wide (Nat.zero_le _) (by omega))) ?_
  rintro _ w23 ⟨rfl, H9⟩
  have hB23 := Bl.step hB22 H9
  have hK53 := Blk.below hK48 H9
  have hK54 := Blk.below hK49 H9
  have hK55 := Blk.below hK50 H9
  have hK56 := Blk.below hK51 H9
  have hK57 := Blk.below hK52 H9
  have hR79 := hR71.mono (kept_below H9 (by omega))
  have hR80 := hR72.mono (kept_below H9 (by omega))
  have hR81 := hR73.mono (kept_below H9 (by omega))
  have hR82 := hR74.mono (kept_below H9 (by omega))
  have hR83 := hR75.mono (kept_below H9 (by omega))
  have hR84 := hR78.mono (kept_below H9 (by omega))
  have hz9 := H9.size
  rw [(decide_eq_true rfl)]
  refine RW.yl rfl rfl rfl (Yl.pickT rfl rfl rfl) ?_
  refine RW.yl rfl rfl rfl (Yl.move rfl rfl) ?_
  refine RW.yl rfl rfl rfl (Yl.move rfl rfl) ?_
  refine RW.yl rfl rfl rfl (Yl.eqb (Yl.eql rfl rfl rfl) (show decide ((0 : Int) = 0) = true by decide)) ?_
  refine RW.yl rfl rfl rfl (Yl.pickT rfl rfl rfl) ?_
  refine RW.yl rfl rfl rfl (Yl.move rfl rfl) ?_
  refine RW.yl rfl rfl rfl (Yl.loadAgg (cs := [.slice ps2 (([[2, 0], [2, 0]] : List (List Int)).length) cs2]) rfl rfl many24 (Blk.cells hK56)) ?_
  refine RW.newS (cs := #[.int .i64 2, .int .i64 0]) (T := 3) (l := 2) (c := 2) rfl rfl rfl (Yv.lit2 rfl rfl rfl rfl rfl Try.underlying31 mkx3) ?_
  intro b15 w24 N15
  have ne29 := New.ne N15 hK53
  have ne30 := New.ne N15 hK54
  have ne31 := New.ne N15 hK55
  have ne32 := New.ne N15 hK56
  have ne33 := New.ne N15 hK57
  have lo_b15 : w.heap.size ≤ b15 := by have := hB23.size; have := N15.num; omega
  have hn_b15 := N15.num
  have hs_b15 := N15.size
  have hB24 := Bl.step hB23 N15.below
  have hK58 := Blk.below hK53 N15.below
  have hK59 := Blk.below hK54 N15.below
  have hK60 := Blk.below hK55 N15.below
  have hK61 := Blk.below hK56 N15.below
  have hK62 := Blk.below hK57 N15.below
  have hR85 := hR79.mono (kept_below N15.below (by omega))
  have hR86 := hR80.mono (kept_below N15.below (by omega))
  have hR87 := hR81.mono (kept_below N15.below (by omega))
  have hR88 := hR82.mono (kept_below N15.below (by omega))
  have hR89 := hR83.mono (kept_below N15.below (by omega))
  have hR90 := hR84.mono (kept_below N15.below (by omega))
  have hR91 : RInts w.heap.size w24.heap.size w24 (.slice (some ⟨b15, 0, none⟩) 2 2) ([2, 0] : List Int) := RInts.ofBlk (l := ([2, 0] : List Int)) N15.blk rfl lo_b15 (Blk.lt N15.blk) (by decide)
  refine RW.newS (cs := #[.int .i64 2, .int .i64 0]) (T := 3) (l := 2) (c := 2) rfl rfl rfl (Yv.lit2 rfl rfl rfl rfl rfl Try.underlying31 mkx3) ?_
  intro b16 w25 N16
  have ne34 := New.ne N16 hK58
  have ne35 := New.ne N16 hK59
  have ne36 := New.ne N16 hK60
  have ne37 := New.ne N16 hK61
  have ne38 := New.ne N16 hK62
  have lo_b16 : w.heap.size ≤ b16 := by have := hB24.size; have := N16.num; omega
  have hn_b16 := N16.num
  have hs_b16 := N16.size
  have hB25 := Bl.step hB24 N16.below
  have hK63 := Blk.below hK58 N16.below
  have hK64 := Blk.below hK59 N16.below
  have hK65 := Blk.below hK60 N16.below
  have hK66 := Blk.below hK61 N16.below
  have hK67 := Blk.below hK62 N16.below
  have hR92 := hR85.mono (kept_below N16.below (by omega))
  have hR93 := hR86.mono (kept_below N16.below (by omega))
  have hR94 := hR87.mono (kept_below N16.below (by omega))
  have hR95 := hR88.mono (kept_below N16.below (by omega))
  have hR96 := hR89.mono (kept_below N16.below (by omega))
  have hR97 := hR90.mono (kept_below N16.below (by omega))
  have hR98 := hR91.mono (kept_below N16.below (by omega))
  have hR99 : RInts w.heap.size w25.heap.size w25 (.slice (some ⟨b16, 0, none⟩) 2 2) ([2, 0] : List Int) := RInts.ofBlk (l := ([2, 0] : List Int)) N16.blk rfl lo_b16 (Blk.lt N16.blk) (by decide)
  refine RW.newS (cs := #[.slice (some ⟨b15, 0, none⟩) 2 2, .slice (some ⟨b16, 0, none⟩) 2 2]) (T := 31) (l := 2) (c := 2) rfl rfl rfl (Yv.lit2 rfl rfl rfl rfl rfl Try.underlying22 mkx31) ?_
  intro b17 w26 N17
  have ne39 := New.ne N17 hK63
  have ne40 := New.ne N17 hK64
  have ne41 := New.ne N17 hK65
  have ne42 := New.ne N17 hK66
  have ne43 := New.ne N17 hK67
  have lo_b17 : w.heap.size ≤ b17 := by have := hB25.size; have := N17.num; omega
  have hn_b17 := N17.num
  have hs_b17 := N17.size
  have hB26 := Bl.step hB25 N17.below
  have hK68 := Blk.below hK63 N17.below
  have hK69 := Blk.below hK64 N17.below
  have hK70 := Blk.below hK65 N17.below
  have hK71 := Blk.below hK66 N17.below
  have hK72 := Blk.below hK67 N17.below
  have hR100 := hR92.mono (kept_below N17.below (by omega))
  have hR101 := hR93.mono (kept_below N17.below (by omega))
  have hR102 := hR94.mono (kept_below N17.below (by omega))
  have hR103 := hR95.mono (kept_below N17.below (by omega))
  have hR104 := hR96.mono (kept_below N17.below (by omega))
  have hR105 := hR97.mono (kept_below N17.below (by omega))
  have hR106 := hR98.mono (kept_below N17.below (by omega))
  have hR107 := hR99.mono (kept_below N17.below (by omega))
  have hR108 : RRows w.heap.size w26.heap.size w26 (.slice (some ⟨b17, 0, none⟩) 2 2) ([[2, 0], [2, 0]] : List (List Int)) := RRows.lit2 N17.blk (hR106.wide (Nat.le_refl _) (by omega)) (hR107.wide (Nat.le_refl _) (by omega)) lo_b17 (Blk.lt N17.blk)
  refine RW.yl rfl rfl rfl (Yl.build1 rfl rfl (built124 _ _ _)) ?_
  refine RW.fn rfl rfl rfl (Yc.func #[.agg #[.slice ps2 (([[2, 0], [2, 0]] : List (List Int)).length) cs2], .agg #[.slice (some ⟨b17, 0, none⟩) 2 2]] rfl ok19 (args2 rfl rfl)) (c19 (hR103.wide (Nat.zero_le _) (by omega)) (hR108.wide (Nat.zero_le _) (by omega))) ?_
  rintro _ w27 ⟨rfl, H10⟩
  have hB27 := Bl.step hB26 H10
  have hK73 := Blk.below hK68 H10
  have hK74 := Blk.below hK69 H10
  have hK75 := Blk.below hK70 H10
  have hK76 := Blk.below hK71 H10
  have hK77 := Blk.below hK72 H10
  have hR109 := hR100.mono (kept_below H10 (by omega))
  have hR110 := hR101.mono (kept_below H10 (by omega))
  have hR111 := hR102.mono (kept_below H10 (by omega))
  have hR112 := hR103.mono (kept_below H10 (by omega))
  have hR113 := hR104.mono (kept_below H10 (by omega))
  have hR114 := hR105.mono (kept_below H10 (by omega))
  have hR115 := hR108.mono (kept_below H10 (by omega))
  have hz10 := H10.size
  rw [(decide_eq_true rfl)]
  refine RW.yl rfl rfl rfl (Yl.pickT rfl rfl rfl) ?_
  refine RW.yl rfl rfl rfl (Yl.move rfl rfl) ?_
  refine RW.yl rfl rfl rfl (Yl.move rfl rfl) ?_
  refine RW.yl rfl rfl rfl (Yl.eqb (Yl.eql rfl rfl rfl) (show decide ((1 : Int) = 1) = true by decide)) ?_
  refine RW.yl rfl rfl rfl (Yl.pickT rfl rfl rfl) ?_
  refine RW.yl rfl rfl rfl (Yl.assign rfl rfl) ?_
  refine RW.nil ?_
  change CW _ _ _ _ _ _
  refine CW.ret ?_
  change FinQ _ _ _ _ _ _
  refine fin1 (.inr rfl) rfl rfl ?_
  exact ⟨_, rfl, rfl, hB27⟩

end Go.Proofs.Ytodeffidnipelaa
