/- Cascade and Parallel are associative. -/
import Derived.Test.YtodeffidnipelaaM2
namespace Go.Proofs.Ytodeffidnipelaa

theorem pairG_inv {c d : List (List Int)} (h : pairG c d = 0) : validB c = true ∧ validB d = true := pairG_zero h
theorem cascR_valid {c d : List (List Int)} (h : (cascR c d).2 = 0) : validB c = true ∧ validB d = true := by
  by_cases hb : (validB c && validB d) = true
  · simpa using hb
  · rw [cascR_bad (by simpa using hb)] at h; cases h
theorem parR_valid {c d : List (List Int)} (h : (parR c d).2 = 0) : validB c = true ∧ validB d = true := by
  by_cases hb : (validB c && validB d) = true
  · simpa using hb
  · have h1 : lpairG c d = 1 := by unfold lpairG; rw [if_neg hb]
    rw [parR_bad (by omega), h1] at h; cases h

section
variable {a b c : List (List Int)}
theorem casc_assoc (h1 : (cascR a b).2 = 0) (h2 : (cascR b c).2 = 0) : cascR (cascR a b).1 c = cascR a (cascR b c).1 := by
  obtain ⟨va, vb⟩ := cascR_valid h1
  obtain ⟨_, vc⟩ := cascR_valid h2
  obtain ⟨e1, t1, d1⟩ := cascR_zero va vb h1
  obtain ⟨e2, t2, d2⟩ := cascR_zero vb vc h2
  have ca := validB_chanT va
  have cb := validB_chanT vb
  have cc := validB_chanT vc
  have cab := casc_chan ca cb e1 t1
  have cbc := casc_chan cb cc e2 t2
  rw [d1, d2]
  have vab := chan_validB cab
  have vbc := chan_validB cbc
  have ht : totG (cascT a b) * totG c = totG a * totG (cascT b c) := by rw [cab.tot, cbc.tot, Int.mul_assoc]
  have l1 : (((cascT a b)[0]!).length : Int) = ((c.length : Nat) : Int) := by rw [cab.cols]; omega
  have l2 : ((a[0]!).length : Int) = (((cascT b c).length : Nat) : Int) := by rw [cbc.rows]; omega
  by_cases hz : limG 1 (totG (cascT a b) * totG c) = 0
  · rw [cascR_ok vab vc l1 hz, cascR_ok va vbc l2 (by rw [← ht]; exact hz)]
    congr 1
    have eab : cascT a b = tab a.length (b[0]!).length (fun x y => sumTo b.length fun k => ((a[x]!)[k]!) * ((b[k]!)[y]!)) := rfl
    have ebc : cascT b c = tab b.length (c[0]!).length (fun x y => sumTo c.length fun k => ((b[x]!)[k]!) * ((c[k]!)[y]!)) := rfl
    have hL : cascT (cascT a b) c = tab a.length (c[0]!).length (fun x z => sumTo c.length fun k => (sumTo b.length fun y => ((a[x]!)[y]!) * ((b[y]!)[k]!)) * ((c[k]!)[z]!)) := by
      show tab (cascT a b).length (c[0]!).length (fun x y => sumTo c.length fun k => (((cascT a b)[x]!)[k]!) * ((c[k]!)[y]!)) = _
      rw [cab.rows]
      refine tab_congr fun x z hx hz => sumTo_congr fun k hk => ?_
      rw [eab, tab_ent hx (by omega)]
    have hR : cascT a (cascT b c) = tab a.length (c[0]!).length (fun x z => sumTo b.length fun y => ((a[x]!)[y]!) * (sumTo c.length fun k => ((b[y]!)[k]!) * ((c[k]!)[z]!))) := by
      show tab a.length ((cascT b c)[0]!).length (fun x y => sumTo (cascT b c).length fun k => ((a[x]!)[k]!) * (((cascT b c)[k]!)[y]!)) = _
      rw [cbc.cols, cbc.rows]
      refine tab_congr fun x z hx hz => sumTo_congr fun k hk => ?_
      rw [ebc, tab_ent hk hz]
    rw [hL, hR]
    refine tab_congr fun x z hx hz => ?_
    have h3 : (sumTo c.length fun k => (sumTo b.length fun y => ((a[x]!)[y]!) * ((b[y]!)[k]!)) * ((c[k]!)[z]!)) = sumTo c.length fun k => sumTo b.length fun y => (((a[x]!)[y]!) * ((b[y]!)[k]!)) * ((c[k]!)[z]!) := sumTo_congr fun k _ => by rw [sumTo_mulR]
    rw [h3, sumTo_comm]
    refine sumTo_congr fun y _ => ?_
    rw [← sumTo_mulL]
    exact sumTo_congr fun k _ => Int.mul_assoc _ _ _
  · rw [cascR_lim vab vc l1 hz, cascR_lim va vbc l2 (by rw [← ht]; exact hz), ht]

theorem par_assoc (h1 : (parR a b).2 = 0) (h2 : (parR b c).2 = 0) : parR (parR a b).1 c = parR a (parR b c).1 := by
  obtain ⟨va, vb⟩ := parR_valid h1
  obtain ⟨_, vc⟩ := parR_valid h2
  obtain ⟨e1, w1, t1, d1⟩ := parR_zero va vb h1
  obtain ⟨e2, w2, t2, d2⟩ := parR_zero vb vc h2
  have ca := validB_chanT va
  have cb := validB_chanT vb
  have cc := validB_chanT vc
  have cab := par_chan ca cb e1 w1 t1
  have cbc := par_chan cb cc e2 w2 t2
  rw [d1, d2]
  have vab := chan_validB cab
  have vbc := chan_validB cbc
  have ht : totG (parT a b) * totG c = totG a * totG (parT b c) := by rw [cab.tot, cbc.tot, Int.mul_assoc]
  have hw : ((parT a b)[0]!).length * (c[0]!).length = (a[0]!).length * ((parT b c)[0]!).length := by rw [cab.cols, cbc.cols, Nat.mul_assoc]
  have l1 : (parT a b).length = c.length := by rw [cab.rows]; omega
  have l2 : a.length = (parT b c).length := by rw [cbc.rows]; omega
  by_cases hz : limG ((((parT a b)[0]!).length * (c[0]!).length : Nat) : Int) (totG (parT a b) * totG c) = 0
  · rw [parR_ok vab vc l1 hz, parR_ok va vbc l2 (by rw [← ht, ← hw]; exact hz)]
    congr 1
    have eab := par_tab ca cb
    have ebc := par_tab cb cc
    have B1 := cb.c1
    have C1 := cc.c1
    rw [par_tab cab cc, par_tab ca cbc, Nat.mul_assoc]
    refine tab_congr fun x y hx hy => ?_
    have hq1 : y / (c[0]!).length < (a[0]!).length * (b[0]!).length := Nat.div_lt_of_lt_mul (by rw [Nat.mul_comm, Nat.mul_assoc]; exact hy)
    have hq2 : y % ((b[0]!).length * (c[0]!).length) < (b[0]!).length * (c[0]!).length := Nat.mod_lt _ (Nat.mul_pos (by omega) (by omega))
    rw [eab, ebc, tab_ent hx hq1, tab_ent (by omega) hq2, Nat.div_div_eq_div_mul, Nat.mul_comm (c[0]!).length (b[0]!).length]
    have m1 : y % ((b[0]!).length * (c[0]!).length) / (c[0]!).length = y / (c[0]!).length % (b[0]!).length := by rw [Nat.mul_comm, Nat.mod_mul_right_div_self]
    have m2 : y % ((b[0]!).length * (c[0]!).length) % (c[0]!).length = y % (c[0]!).length := Nat.mod_mod_of_dvd _ (Nat.dvd_mul_left _ _)
    rw [m1, m2, Int.mul_assoc]
  · rw [parR_lim vab vc l1 hz, parR_lim va vbc l2 (by rw [← ht, ← hw]; exact hz), ht, hw]
end
end Go.Proofs.Ytodeffidnipelaa
