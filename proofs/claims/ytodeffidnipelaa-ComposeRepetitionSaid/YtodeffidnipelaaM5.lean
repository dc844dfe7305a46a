/- Repeat: what it returns. -/
import Derived.Test.YtodeffidnipelaaM4
namespace Go.Proofs.Ytodeffidnipelaa

/-- k times Parallel with c, from m on -/
def repGo (c : List (List Int)) : Nat → List (List Int) → List (List Int) × Int
  | 0, m => (m, 0)
  | k + 1, m => if (parR m c).2 = 0 then repGo c k (parR m c).1 else ([], (parR m c).2)
/-- what Repeat returns -/
def repR (c : List (List Int)) (n : Int) : List (List Int) × Int := if validB c = true then if n < 1 ∨ 16 < n then ([], 3) else repGo c (n - 1).toNat c else ([], 1)

section
variable {c m : List (List Int)} {n : Int} {k : Nat}
theorem repR_bad (h : validB c = false) : repR c n = ([], 1) := by unfold repR; rw [if_neg (by rw [h]; exact Bool.false_ne_true)]
theorem repR_rng (h : validB c = true) (hn : n < 1 ∨ 16 < n) : repR c n = ([], 3) := by unfold repR; rw [if_pos h, if_pos hn]
theorem repR_go (h : validB c = true) (hn : ¬ n < 1) (hn2 : ¬ 16 < n) : repR c n = repGo c (n - 1).toNat c := by unfold repR; rw [if_pos h, if_neg (by omega)]
theorem rep_init (h : validB c = true) : repGo c (n - 1).toNat c = repGo c ((n - 1).toNat - 0) (tab c.length (c[0]!).length (fun x y => (c[x]!)[y]!)) := by
  rw [← (validB_chanT h).tabEq]; rfl
theorem rep_step (hk : (k : Int) < n - 1) : repGo c ((n - 1).toNat - k) m = if (parR m c).2 = 0 then repGo c ((n - 1).toNat - (k + 1)) (parR m c).1 else ([], (parR m c).2) := by
  have : (n - 1).toNat - k = ((n - 1).toNat - (k + 1)) + 1 := by omega
  rw [this]; rfl
theorem rep_next (hi : repGo c (n - 1).toNat c = repGo c ((n - 1).toNat - k) m) (hk : (k : Int) < n - 1) (h : (parR m c).2 = 0) : repGo c (n - 1).toNat c = repGo c ((n - 1).toNat - (k + 1)) (parR m c).1 := by
  rw [hi, rep_step hk, if_pos h]
theorem repR_stop (hv : validB c = true) (hn : ¬ n < 1) (hn2 : ¬ 16 < n) (hi : repGo c (n - 1).toNat c = repGo c ((n - 1).toNat - k) m) (hk : (k : Int) < n - 1) (h : ¬ (parR m c).2 = 0) : repR c n = ([], (parR m c).2) := by
  rw [repR_go hv hn hn2, hi, rep_step hk, if_neg h]
theorem repR_end (hv : validB c = true) (hn : ¬ n < 1) (hn2 : ¬ 16 < n) (hi : repGo c (n - 1).toNat c = repGo c ((n - 1).toNat - k) m) (hk : ¬ (k : Int) < n - 1) : repR c n = (m, 0) := by
  rw [repR_go hv hn hn2, hi, show (n - 1).toNat - k = 0 by omega]; rfl
end
end Go.Proofs.Ytodeffidnipelaa
namespace Go.Proofs.Ytodeffidnipelaa
theorem limG_four {c t : Int} (h : ¬ limG c t = 0) : limG c t = 4 := by
  unfold limG at h ⊢
  by_cases hb : 256 < c ∨ 1048576 < t
  · rw [if_pos hb]
  · rw [if_neg hb] at h; omega
section
variable {c m : List (List Int)} {n : Int} {k : Nat}
theorem rep_nextT (hi : repGo c (n - 1).toNat c = repGo c ((n - 1).toNat - k) m) (hk : (k : Int) < n - 1) (h : parR m c = (parT m c, 0)) : repGo c (n - 1).toNat c = repGo c ((n - 1).toNat - (k + 1)) (parT m c) := by
  have := rep_next hi hk (by rw [h])
  rwa [h] at this
theorem parT_len (h : m.length = c.length) : (parT m c).length = c.length := by unfold parT; rw [tab_length, h]
theorem par_valid (hm : validB m = true) (hc : validB c = true) (hl : m.length = c.length) (h : limG (((m[0]!).length * (c[0]!).length : Nat) : Int) (totG m * totG c) = 0) : validB (parT m c) = true :=
  chan_validB (par_chan (validB_chanT hm) (validB_chanT hc) hl (by have := (limG_zero h).1; omega) (limG_zero h).2)
theorem repR_four (hv : validB c = true) (hn : ¬ n < 1) (hn2 : ¬ 16 < n) (hi : repGo c (n - 1).toNat c = repGo c ((n - 1).toNat - k) m) (hk : (k : Int) < n - 1) (hm : validB m = true) (hl : m.length = c.length)
    (h : ¬ limG (((m[0]!).length * (c[0]!).length : Nat) : Int) (totG m * totG c) = 0) : repR c n = ([], 4) := by
  have h1 := parR_lim hm hv hl h
  have h2 := limG_four h
  rw [h2] at h1
  rw [repR_stop hv hn hn2 hi hk (by rw [h1]; decide), h1]
end
end Go.Proofs.Ytodeffidnipelaa
