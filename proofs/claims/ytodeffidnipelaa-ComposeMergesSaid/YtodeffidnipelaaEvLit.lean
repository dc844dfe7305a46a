/- Literals of slices and of structs of one field. Program-independent. -/
import Derived.Test.YtodeffidnipelaaEvRows
namespace Go.Ev
open Go Go.RowKit
section
variable {P : Program} {E : Env} {o : Oper} {w : World} {T e : TypeId}
theorem Yv.lit2 {x0 x1 : Operand} {v0 v1 : Value} (ho : o.op = .buildSlice T 2 #[(0, x0), (1, x1)]) (g0 : E.ev x0 = some v0) (g1 : E.ev x1 = some v1) (c0 : v0.cells = #[v0]) (c1 : v1.cells = #[v1]) (hT : P.underlying T = some (.slice e)) (hz : ∃ i, P.info? e = some i ∧ i.size = 1 ∧ i.bytes ≤ 64 ∧ ∃ u, i.zero = some u ∧ u.cells.size = 1) :
    Yv P E o w (.slice (some ⟨w.heap.size, 0, none⟩) 2 2) (w.alloc (.cells #[v0, v1] e)) := fun ρ hρ => by
  obtain ⟨i, h1, h2, _, u, h3, h4⟩ := hz
  have hf : Instr.fill (fun k => some (k * i.size, i.size)) ((Array.range (2 * i.size)).map (u.cells[· % u.cells.size]!)) [(0, v0), (1, v1)] = some #[v0, v1] := by
    rw [h2]
    have ha : ((Array.range (2 * 1)).map (u.cells[· % u.cells.size]!)).size = 2 := by simp
    generalize ((Array.range (2 * 1)).map (u.cells[· % u.cells.size]!)) = z at ha
    match z, ha with
    | ⟨[z0, z1]⟩, _ => simp [Instr.fill, c0, c1]
  have := run_buildSlice (P := P) w T e 2 #[(0, v0), (1, v1)] #[v0, v1] i u hT h1 h3 (by rw [h2]; decide) (by rw [h2]; decide) hf
  simp [execOp, ho, hρ _ _ g0, hρ _ _ g1, this]
theorem Yv.lit4 {x0 x1 x2 x3 : Operand} {v0 v1 v2 v3 : Value} (ho : o.op = .buildSlice T 4 #[(0, x0), (1, x1), (2, x2), (3, x3)]) (g0 : E.ev x0 = some v0) (g1 : E.ev x1 = some v1) (g2 : E.ev x2 = some v2) (g3 : E.ev x3 = some v3) (c0 : v0.cells = #[v0]) (c1 : v1.cells = #[v1]) (c2 : v2.cells = #[v2]) (c3 : v3.cells = #[v3]) (hT : P.underlying T = some (.slice e)) (hz : ∃ i, P.info? e = some i ∧ i.size = 1 ∧ i.bytes ≤ 64 ∧ ∃ u, i.zero = some u ∧ u.cells.size = 1) :
    Yv P E o w (.slice (some ⟨w.heap.size, 0, none⟩) 4 4) (w.alloc (.cells #[v0, v1, v2, v3] e)) := fun ρ hρ => by
  obtain ⟨i, h1, h2, _, u, h3, h4⟩ := hz
  have hf : Instr.fill (fun k => some (k * i.size, i.size)) ((Array.range (4 * i.size)).map (u.cells[· % u.cells.size]!)) [(0, v0), (1, v1), (2, v2), (3, v3)] = some #[v0, v1, v2, v3] := by
    rw [h2]
    have ha : ((Array.range (4 * 1)).map (u.cells[· % u.cells.size]!)).size = 4 := by simp
    generalize ((Array.range (4 * 1)).map (u.cells[· % u.cells.size]!)) = z at ha
    match z, ha with
    | ⟨[z0, z1, z2, z3]⟩, _ => simp [Instr.fill, c0, c1, c2, c3]
  have := run_buildSlice (P := P) w T e 4 #[(0, v0), (1, v1), (2, v2), (3, v3)] #[v0, v1, v2, v3] i u hT h1 h3 (by rw [h2]; decide) (by rw [h2]; decide) hf
  simp [execOp, ho, hρ _ _ g0, hρ _ _ g1, hρ _ _ g2, hρ _ _ g3, this]

theorem Yl.indexAddrA {x y : Operand} {m : Int} {n b' of k : Nat} (ho : o.op = .indexAddr T x y) (hx : E.ev x = some (.pointer (some ⟨b', of, none⟩))) (hy : E.ev y = some (.int .i64 m)) (hT : P.underlying T = some (.array n e)) (hs : (P.info? e).map (·.size) = some 1)
    (hm : m = (k : Int)) (hk : k < n) : Yl P E o w (.pointer (some ⟨b', of + k, none⟩)) := fun ρ hρ => by
  obtain ⟨j, hj, hj'⟩ := Option.map_eq_some_iff.1 hs
  have hadd : ∀ k, (⟨b', of, none⟩ : Addr).add k = ⟨b', of + k, none⟩ := fun k => by unfold Addr.add; split <;> simp_all
  subst hm
  simp [execOp, ho, Instr.indexAt, hρ _ _ hx, hρ _ _ hy, run_underlying hT, sizeOf, typeInfo, hj, hj', hadd, asIntOf, hk, Instr.sureAddr]
theorem Yl.build1 {x : Operand} {v : Value} {cells : Array Value} (ho : o.op = .build T #[(0, x)]) (hx : E.ev x = some v) (hb : P.built T [(0, v)] = some cells) : Yl P E o w (.agg cells) := fun ρ hρ => by
  have := run_build (P := P) w T #[(0, v)] cells hb
  simp [execOp, ho, hρ _ _ hx, this]
end

section
variable {lo hi b : Nat} {w : World} {T : TypeId} {u v : Value}
theorem RInts.ofBlk {cs : Array Value} {l : List Int} (h : Blk w b cs T) (hc : cs = (l.map (Value.int .i64)).toArray) (h1 : lo ≤ b) (h2 : b < hi) (hl : l.length ≤ 9223372036854775807) : RInts lo hi w (.slice (some ⟨b, 0, none⟩) l.length l.length) l := by
  subst hc
  refine ⟨_, _, rfl, hl, fun i hi => ⟨b, 0, .int .i64 (l[i]!), rfl, h1, h2, h.cell ?_, rfl⟩⟩
  rw [Nat.zero_add, getElem!_pos l i hi]
  simp [hi]
theorem RRows.lit2 {l0 l1 : List Int} (h : Blk w b #[u, v] T) (hu : RInts lo hi w u l0) (hv : RInts lo hi w v l1) (h1 : lo ≤ b) (h2 : b < hi) : RRows lo hi w (.slice (some ⟨b, 0, none⟩) 2 2) [l0, l1] := by
  refine ⟨_, _, rfl, by simp, fun i hi => ?_⟩
  match i, hi with
  | 0, _ => exact ⟨b, 0, u, rfl, h1, h2, h.cell rfl, hu⟩
  | 1, _ => exact ⟨b, 0, v, rfl, h1, h2, h.cell rfl, hv⟩
end
end Go.Ev
