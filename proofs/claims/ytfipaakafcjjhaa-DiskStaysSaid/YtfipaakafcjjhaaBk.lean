/- slices.Backward: its rounds. -/
import Derived.Test.YtfipaakafcjjhaaTy
import Derived.Test.YtfipaakafcjjhaaAb8
import Derived.RangeFuncBound
import Derived.RangeFuncCalls
import Derived.RangeFuncLeaves
import Derived.Shelf.Abstract
import Derived.Shelf.RegionOpen
import Derived.WalkKit
import Derived.OwnWalkIn
import Derived.TacticsInMore
import Derived.LoopNIn
import Derived.LoopIn
set_option linter.unusedSectionVars false
set_option linter.unusedVariables false
set_option linter.unusedSimpArgs false
namespace Go.Proofs.Ytfipaakafcjjhaa
open Go Go.RowKit Go.Shelf Go.Ab
attribute [local go_sem] Oper.semAt_some

theorem take_fin {n k : Nat} (h : k < n) : (List.finRange n).take (k + 1) = (List.finRange n).take k ++ [⟨k, h⟩] := by
  rw [List.take_add_one, List.getElem?_eq_getElem (by simpa using h), List.getElem_finRange]
  rfl

set_option maxRecDepth 100000 in
set_option maxHeartbeats 4000000 in
theorem back_in (l Bs o b off len cap n0 : Nat) (u : Nat → Nat → Value) (A : Nat → Prop) (hb : b < n0) (hAb : A b) (hB : Bs < n0) (hAB : A Bs) (hlen : len ≤ 9223372036854775807) (J Jx : List (Fin len) → World → Prop)
    (hY : ∀ pre (x : Fin len) W, J pre W → pre.length < len → YieldAt Fence.wide 0 Try.prog l #[.int .i64 ((len : Int) - 1 - (x.1 : Int)), .agg #[u (len - 1 - x.1) 0, u (len - 1 - x.1) 1]] W fun e W' =>
      (e = .returned (.bool true) ∧ J (pre ++ [x]) W' ∧ (∀ b, b < n0 → A b → W'.heap[b]? = W.heap[b]?)) ∨ (e = .returned (.bool false) ∧ Jx (pre ++ [x]) W'))
    (W : World) (hBs : W.cell? ⟨Bs, o, none⟩ = some (.slice (some ⟨b, off, none⟩) len cap)) (hc : ∀ i j, i < len → j < 2 → W.cell? ⟨b, off + i * 2 + j, none⟩ = some (u i j)) (h0 : J [] W) :
    CallsIn Fence.wide 1 Try.prog 52 #[.func (.yield l) #[] #[], .pointer (some ⟨Bs, o, none⟩)] W fun e W' => (∃ v, e = .returned v) ∧
      ((∃ xs, xs = List.finRange len ∧ J xs W') ∨ (∃ pre, pre <+: List.finRange len ∧ Jx pre W')) := by
  refine callsIn_of_wp Try.func52 rfl trivial ?_ rfl
  simp only [Try.ntmps52, List.size_toArray, List.length_cons, List.length_nil, Nat.reduceAdd, Nat.reduceSub, Array.replicate_succ, Array.replicate_zero, List.push_toArray, List.append_toArray, List.nil_append, List.cons_append]
  gi_wp2
  gi_loopw [3] (fun i wr => ∃ k : Nat, k ≤ len ∧ i = .int .i64 ((len : Int) - 1 - k) ∧ J ((List.finRange len).take k) wr ∧ (∀ b, b < n0 → A b → wr.heap[b]? = W.heap[b]?))
    (fun i _ => (intOf i + 1).toNat)
  case atStart => exact ⟨0, Nat.zero_le _, by simp, by simpa using h0, fun _ _ _ => rfl⟩
  case round =>
    obtain ⟨k, hk, rfl, hJs, hnx⟩ := hrel
    have hcB : wr.cell? ⟨Bs, o, none⟩ = some (.slice (some ⟨b, off, none⟩) len cap) := (World.cell?_of_block (hnx Bs hB hAB)).trans hBs
    have hcx : ∀ i j, i < len → j < 2 → wr.cell? ⟨b, off + i * 2 + j, none⟩ = some (u i j) := fun i j h1 h2 => (World.cell?_of_block (hnx b hb hAb)).trans (hc i j h1 h2)
    by_cases hlt : k < len
    · obtain ⟨fn, tmps, assign, body, hy, hR⟩ := hY _ ⟨k, hlt⟩ wr hJs (by simp; omega)
      dsimp only at hy
      have e0 : wr.cell? ⟨b, off + (len - 1 - k) * 2, none⟩ = some (u (len - 1 - k) 0) := hcx (len - 1 - k) 0 (by omega) (by omega)
      have e1 := hcx (len - 1 - k) 1 (by omega) (by omega)
      gi_wp2
      refine hR.mono ?_
      rintro e W3 (⟨rfl, hJ3, hk3⟩ | ⟨rfl, hJx3⟩)
      · gi_wp2
        go_roundw
        case rel => exact ⟨k + 1, by omega, by simp; omega, by rw [take_fin hlt]; exact hJ3, fun b' h1 h2 => (hk3 b' h1 h2).trans (hnx b' h1 h2)⟩
        case measure => simp [intOf]; omega
      · gi_wp2
        refine bodyPost_ret (results_none rfl _ _ _) rfl ?_
        exact ⟨⟨_, rfl⟩, .inr ⟨_, by rw [← take_fin hlt]; exact List.take_prefix _ _, hJx3⟩⟩
    · obtain rfl : k = len := by omega
      gi_wp2
      go_end0
      exact ⟨⟨_, rfl⟩, .inl ⟨_, rfl, by rwa [List.take_of_length_le (by simp)] at hJs⟩⟩

set_option maxRecDepth 100000 in
set_option maxHeartbeats 1000000 in
theorem back_nil (l Bs o cap : Nat) (p : Option Addr) (J : List (Fin 0) → World → Prop) (W : World) (hBs : W.cell? ⟨Bs, o, none⟩ = some (.slice p 0 cap)) (h0 : J [] W) :
    CallsIn Fence.wide 1 Try.prog 52 #[.func (.yield l) #[] #[], .pointer (some ⟨Bs, o, none⟩)] W fun e W' => (∃ v, e = .returned v) ∧ J [] W' := by
  refine callsIn_of_wp Try.func52 rfl trivial ?_ rfl
  simp only [Try.ntmps52, List.size_toArray, List.length_cons, List.length_nil, Nat.reduceAdd, Nat.reduceSub, Array.replicate_succ, Array.replicate_zero, List.push_toArray, List.append_toArray, List.nil_append, List.cons_append]
  gi_wp2
  gi_loopw [3] (fun i wr => i = .int .i64 (-1) ∧ J [] wr) (fun _ _ => 0)
  case atStart => exact ⟨by simp, h0⟩
  case round =>
    obtain ⟨rfl, hJs⟩ := hrel
    gi_wp2
    go_end0
    exact ⟨⟨_, rfl⟩, hJs⟩

def backEs (l : List Write) : List (List AV) := (List.range l.length).map fun (k : Nat) => [.i ((l.length : Int) - 1 - (k : Int)), .agg (Write.cells l[l.length - 1 - k]!)]
theorem backEs_len (l : List Write) : (backEs l).length = l.length := by simp [backEs]
theorem backEs_get (l : List Write) {k : Nat} (h : k < l.length) : (backEs l)[k]! = [.i ((l.length : Int) - 1 - (k : Int)), .agg (Write.cells l[l.length - 1 - k]!)] := by
  rw [getElem!_pos _ k (by rw [backEs_len]; exact h)]
  simp [backEs]

theorem back_iter (l : List Write) : Iter Try.prog 52 [.fp [.sl 2 Write.cells l]] (backEs l) := fun A w lb hlb => by
  obtain ⟨v, hv1, hv2⟩ := hlb.get (j := 0) rfl
  obtain rfl : lb = [v] := by
    have := hlb.1
    cases lb with
    | nil => cases hv1
    | cons x xs =>
      cases xs with
      | nil => simp at hv1; rw [hv1]
      | cons y ys => simp at this
  obtain ⟨Bs, o, us, rfl, hB, hAB, hcs, hus⟩ := hv2.fpInv
  obtain ⟨sv, hs1, hs2⟩ := hus.get (j := 0) rfl
  have hcB := hcs 0 sv hs1
  rw [Nat.add_zero] at hcB
  obtain ⟨p, cap, u, rfl, hl, hcap, hz, hc, hr⟩ := hs2.slInv
  have hE := backEs_len l
  obtain ⟨vs, hvs⟩ : ∃ vs : List (List Value), vs = (List.range l.length).map fun (k : Nat) => [.int .i64 ((l.length : Int) - 1 - (k : Int)), .agg #[u (l.length - 1 - k) 0, u (l.length - 1 - k) 1]] := ⟨_, rfl⟩
  have hget : ∀ k, k < l.length → vs[k]! = [.int .i64 ((l.length : Int) - 1 - (k : Int)), .agg #[u (l.length - 1 - k) 0, u (l.length - 1 - k) 1]] := fun k hk => by
    subst hvs
    rw [getElem!_pos _ k (by simpa using hk)]
    simp
  refine ⟨vs, by subst hvs; simp [backEs], fun i hi => ?_, ?_⟩
  · rw [hE] at hi
    rw [backEs_get l hi, hget i hi]
    refine ⟨rfl, fun j a v h1 h2 => ?_⟩
    match j with
    | 0 => cases h1; cases h2; exact .lit _
    | 1 =>
      cases h1; cases h2
      refine .agg _ [u (l.length - 1 - i) 0, u (l.length - 1 - i) 1] rfl fun j a v h1 h2 => ?_
      match j with
      | 0 => cases h2; exact hr _ 0 a (by omega) h1
      | 1 => cases h2; exact hr _ 1 a (by omega) h1
      | j + 2 => cases h2
    | j + 2 => cases h1
  · have henc : (fun i : Fin (backEs l).length => (vs[i.1]!).toArray) = fun x => #[.int .i64 (((backEs l).length : Int) - 1 - (x.1 : Int)), .agg #[u ((backEs l).length - 1 - x.1) 0, u ((backEs l).length - 1 - x.1) 1]] := funext fun x => by
      have hx := x.2
      rw [hget x.1 (by omega)]
      simp [hE]
    rw [henc]
    intro lp J Jx W hW _ _ hY h0
    have hblk : ∀ b, b < w.heap.size → W.heap[b]? = w.heap[b]? := fun b hb => hW.block b hb
    have hcB' : W.cell? ⟨Bs, o, none⟩ = some (.slice p (backEs l).length cap) := by rw [World.cell?_of_block (hblk Bs hB), hE]; exact hcB
    by_cases h0l : l.length = 0
    · obtain rfl : l = [] := List.length_eq_zero_iff.1 h0l
      exact (back_nil lp Bs o cap p J W hcB' h0).mono fun e W' h => ⟨h.1, .inl ⟨[], rfl, h.2⟩⟩
    · obtain ⟨b, off, rfl, hb, hAb, hcell⟩ := hc 0 (by omega)
      refine (back_in lp Bs o b off (backEs l).length cap w.heap.size u A hb hAb.1 hB hAB.1 (by omega) J Jx hY W hcB' (fun i j h1 h2 => ?_) h0).mono fun e W' h => h
      obtain ⟨b', off', e1, _, _, h4⟩ := hc i (by omega)
      cases e1
      rw [World.cell?_of_block (hblk b hb)]
      exact h4 j h2
end Go.Proofs.Ytfipaakafcjjhaa
