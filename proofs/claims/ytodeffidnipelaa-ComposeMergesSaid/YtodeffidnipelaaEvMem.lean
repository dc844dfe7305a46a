/- Changes of the world: new blocks, stores, append; what stays. Program-independent. -/
import Derived.Test.YtodeffidnipelaaEvOps
import Derived.Maps.AppendAt
import Derived.Great.BuildSlice
namespace Go.Ev
open Go Go.RowKit

/-- Block b is a row of cells of type T that may be written. -/
def Blk (w : World) (b : Nat) (cs : Array Value) (T : TypeId) : Prop := w.heap[b]? = some (.cells cs T (0, 0))

/-- The world has grown by one block. -/
structure New (w w' : World) (b : Nat) (cs : Array Value) (T : TypeId) : Prop where
  num : b = w.heap.size
  size : w'.heap.size = w.heap.size + 1
  blk : Blk w' b cs T
  below : Below w.heap.size w w'

/-- One block has been written. -/
structure Sto (w w' : World) (b : Nat) (cs : Array Value) (T : TypeId) : Prop where
  size : w'.heap.size = w.heap.size
  blk : Blk w' b cs T
  grown : w.grownBy w' (some b)

theorem Blk.lt {w : World} {b : Nat} {cs : Array Value} {T : TypeId} (h : Blk w b cs T) : b < w.heap.size := (Array.getElem?_eq_some_iff.1 h).1

theorem Blk.cell {w : World} {b : Nat} {cs : Array Value} {T : TypeId} (h : Blk w b cs T) {i : Nat} {v : Value} (hv : cs[i]? = some v) : w.cell? ⟨b, i, none⟩ = some v := by
  unfold Blk at h
  simp [World.cell?, h, hv]

theorem Blk.cells {w : World} {b : Nat} {cs : List Value} {T : TypeId} (h : Blk w b cs.toArray T) : ∀ j u, cs[j]? = some u → w.cell? ((⟨b, 0, none⟩ : Addr).add j) = some u := fun j u hj => by
  rw [Addr.add_lit, Nat.zero_add]
  exact h.cell (by simpa using hj)

theorem Blk.below {w w' : World} {b : Nat} {cs : Array Value} {T : TypeId} (h : Blk w b cs T) (hb : Below w.heap.size w w') : Blk w' b cs T := (hb.block b h.lt).trans h

theorem Blk.sto {w w' : World} {b b' : Nat} {cs cs' : Array Value} {T T' : TypeId} (h : Blk w b cs T) (hs : Sto w w' b' cs' T') (hne : b ≠ b') : Blk w' b cs T :=
  (hs.grown.block b h.lt (by simpa using hne)).trans h

theorem New.ne {w w' : World} {b b' : Nat} {cs cs' : Array Value} {T T' : TypeId} (hn : New w w' b' cs' T') (h : Blk w b cs T) : b ≠ b' := by
  have := h.lt
  have := hn.num
  omega

/-- From the world at the beginning on. -/
theorem Bl.step {w0 w w' : World} (hB : Below w0.heap.size w0 w) (h : Below w.heap.size w w') : Below w0.heap.size w0 w' := hB.trans (h.mono hB.size)

theorem Bl.sto {w0 w w' : World} {b : Nat} {cs : Array Value} {T : TypeId} (hB : Below w0.heap.size w0 w) (h : Sto w w' b cs T) (hb : w0.heap.size ≤ b) : Below w0.heap.size w0 w' :=
  hB.grown h.grown hB.size (fun k hk => by cases hk; exact hb)

theorem Bl.drew {w0 w : World} (hB : Below w0.heap.size w0 w) : Below w0.heap.size w0 w.drew := hB.drew

theorem Bl.keep {w w' : World} (h : Below w.heap.size w w') : ∀ a v, w.cell? a = some v → w'.cell? a = some v :=
  fun a _ hc => (h.cell (World.block_lt_of_cell? w a hc)).trans hc

theorem new_alloc (w : World) (cs : Array Value) (T : TypeId) : New w (w.alloc (.cells cs T)) w.heap.size cs T :=
  ⟨rfl, by simp, heap_alloc_new w _, (Below.refl _ _).alloc (Nat.le_refl _) _⟩

section
variable {P : Program} {E : Env} {o : Oper} {w : World} {T T' e : TypeId} {x y z : Operand} {v u : Value} {m n : Int}

theorem Yv.alloc {z : Value} (ho : o.op = .alloc T) (hz : ∃ i, P.info? T = some i ∧ i.zero = some z) : Yv P E o w (.pointer (some ⟨w.heap.size, 0, none⟩)) (w.alloc (.cells z.cells T)) := fun ρ _ => by
  obtain ⟨i, h1, h2⟩ := hz
  simp [execOp, ho, Instr.alloc, zeroValue, typeInfo, h1, h2, newVar, newRow]

theorem Yv.box (ho : o.op = .box T x) (hx : E.ev x = some v) : Yv P E o w (.pointer (some ⟨w.heap.size, 0, none⟩)) (w.alloc (.cells v.cells T)) := fun ρ hρ => by
  simp [execOp, ho, Instr.box, hρ _ _ hx, newVar, newRow]

/-- a slice literal of one element of one cell -/
theorem Yv.lit1 (ho : o.op = .buildSlice T 1 #[(0, x)]) (hx : E.ev x = some v) (hv : v.cells = #[v]) (hT : P.underlying T = some (.slice e)) (hz : ∃ i, P.info? e = some i ∧ i.size = 1 ∧ i.bytes ≤ 64 ∧ ∃ u, i.zero = some u ∧ u.cells.size = 1) :
    Yv P E o w (.slice (some ⟨w.heap.size, 0, none⟩) 1 1) (w.alloc (.cells #[v] e)) := fun ρ hρ => by
  obtain ⟨i, h1, h2, _, u, h3, h4⟩ := hz
  have hf : Instr.fill (fun k => some (k * i.size, i.size)) ((Array.range (1 * i.size)).map (u.cells[· % u.cells.size]!)) [(0, v)] = some #[v] := by
    rw [h2]
    have ha : ((Array.range (1 * 1)).map (u.cells[· % u.cells.size]!)).size = 1 := by simp
    generalize ((Array.range (1 * 1)).map (u.cells[· % u.cells.size]!)) = z at ha
    match z, ha with
    | ⟨[c]⟩, _ => simp [Instr.fill, hv]
  have := run_buildSlice (P := P) w T e 1 #[(0, v)] #[v] i u hT h1 h3 (by rw [h2]; decide) (by rw [h2]; decide) hf
  simp [execOp, ho, hρ _ _ hx, this]

theorem Yv.make {k : Nat} {z : Value} (ho : o.op = .makeSlice T x y) (hx : E.ev x = some (.int .i64 m)) (hy : E.ev y = some (.int .i64 m)) (hm : m = (k : Int)) (hT : P.underlying T = some (.slice e)) (hz : ∃ i, P.info? e = some i ∧ i.size = 1 ∧ i.zero = some z ∧ i.bytes ≤ 64) (hz1 : z.cells = #[z])
    (hk : k ≤ 1048576) : Yv P E o w (.slice (some ⟨w.heap.size, 0, none⟩) k k) (w.alloc (.cells (Array.replicate k z) e)) := fun ρ hρ => by
  obtain ⟨i, h1, h2, h3, h4⟩ := hz
  subst hm
  have hb : (i.bytes : Int) * (k : Int) ≤ 281474976710656 := by
    have : i.bytes * k ≤ 64 * 1048576 := Nat.mul_le_mul h4 hk
    have h' : ((i.bytes * k : Nat) : Int) ≤ 281474976710656 := by omega
    rwa [Int.natCast_mul] at h'
  have := run_make (P := P) w T e i z hT h1 h3 .i64 .i64 k k (by omega) (Int.le_refl _) hb (by omega)
  have hc : madeCells z.cells ((k : Int).toNat * i.size) = Array.replicate k z := by
    rw [h2, hz1, Nat.mul_one]
    apply Array.ext'
    rw [toList_madeCells_one]
    simp
  rw [hc] at this
  simp [execOp, ho, hρ _ _ hx, hρ _ _ hy]
  simp at this
  simp [this]

/-- a store into one cell -/
theorem Yu.store {b' of : Nat} {cs : Array Value} {t : TypeId} (ho : o.op = .store T x y) (hx : E.ev x = some (.pointer (some ⟨b', of, none⟩))) (hy : E.ev y = some v) (hv : v.cells = #[v]) (h1 : v.oneCell' = true) (hs : (P.info? T).map (·.size) = some 1) (hb : Blk w b' cs t) (hlt : of < cs.size) :
    Yu P E o w (w.setCell ⟨b', of, none⟩ v) := fun ρ hρ => by
  obtain ⟨j, hj, hj'⟩ := Option.map_eq_some_iff.1 hs
  have hc : w.cell? ⟨b', of, none⟩ = some cs[of] := hb.cell (by simp [hlt])
  have hf : w.frozen? ⟨b', of, none⟩ = false := by unfold Blk at hb; simp [World.frozen?, hb]
  have hst : (Go.store ⟨b', of, none⟩ v).run P w = .ok () (w.setCell ⟨b', of, none⟩ v) := by
    cases v <;> first | (cases h1; done) | simp [Go.store, Sem.run, hc, hf]
  simp [execOp, ho, hρ _ _ hx, hρ _ _ hy, Instr.storeAt, Instr.sureAddr, storeVar, sizeOf, typeInfo, hj, hj', hv, storeCells, Addr.add_zero', hst]

theorem sto_setCell {b' of : Nat} {cs : Array Value} {t : TypeId} (hb : Blk w b' cs t) (v : Value) : Sto w (w.setCell ⟨b', of, none⟩ v) b' (cs.setIfInBounds of v) t :=
  ⟨by simp, heap_setCell_same w b' of cs t v hb, ⟨rfl, rfl, rfl, by simp, fun k _ hk => heap_setCell_other w ⟨b', of, none⟩ k v (fun e => hk (by simp [e]))⟩⟩

/-- a store of a whole variable of several cells -/
theorem Yu.storeAll {b' : Nat} {cs cs' : Array Value} {t : TypeId} (ho : o.op = .store T x y) (hx : E.ev x = some (.pointer (some ⟨b', 0, none⟩))) (hy : E.ev y = some (.agg cs')) (hs : (P.info? T).map (·.size) = some cs'.size) (hb : Blk w b' cs t) (hsz : cs.size = cs'.size) (h1 : cs'.all (·.oneCell') = true) :
    Yu P E o w (w.setRow b' cs') := fun ρ hρ => by
  have := run_storeVar_row (P := P) w b' t T cs cs' hb hs hsz h1
  simp [execOp, ho, hρ _ _ hx, hρ _ _ hy, Instr.storeAt, Instr.sureAddr, this]

theorem sto_setRow {b' : Nat} {cs cs' : Array Value} {t : TypeId} (hb : Blk w b' cs t) : Sto w (w.setRow b' cs') b' cs' t :=
  ⟨by simp, setRow_heap w b' cs cs' t _ hb, ⟨rfl, rfl, rfl, by simp, fun k _ hk => setRow_other w b' k _ (fun e => hk (by simp [e]))⟩⟩
end

/-! ### Slices that the function itself appends to (elements of one cell) -/

def Own (w : World) (lo : Nat) (e : TypeId) (v : Value) (xs : List Value) : Prop := w.ownsRow lo e 1 v xs.length xs

theorem Own.nil (w : World) (lo : Nat) (e : TypeId) : Own w lo e (.slice none 0 0) [] := World.ownsRow_nil w lo e 1

/-- Append has been carried out. -/
structure App (w w' : World) (lo : Nat) (e : TypeId) (v v' : Value) (xs : List Value) : Prop where
  own : Own w' lo e v' xs
  grown : w.grownBy w' v.ownBlock

theorem Own.ne {w : World} {lo : Nat} {e : TypeId} {v : Value} {xs : List Value} (h : Own w lo e v xs) {b : Nat} {cs : Array Value} {T : TypeId} (hb : Blk w b cs T) (hT : T ≠ e) : v.ownBlock ≠ some b := by
  rcases h.2 with ⟨rfl, _⟩ | ⟨g, cap, cur, rfl, _, hg, _⟩
  · simp [Value.ownBlock]
  · simp only [Value.ownBlock, ne_eq, Option.some.injEq]
    rintro rfl
    unfold Blk at hb
    rw [hg] at hb
    simp at hb
    exact hT hb.2.symm

theorem Own.ge {w : World} {lo : Nat} {e : TypeId} {v : Value} {xs : List Value} (h : Own w lo e v xs) : ∀ k, v.ownBlock = some k → lo ≤ k := fun k hk => (World.ownsRow.lt h k hk).1

theorem Own.below {w w' : World} {lo : Nat} {e : TypeId} {v : Value} {xs : List Value} (h : Own w lo e v xs) (hb : Below w.heap.size w w') : Own w' lo e v xs :=
  World.ownsRow.kept (row := none) h ⟨hb.os, hb.tape, hb.output, hb.size, fun k hk _ => hb.block k hk⟩ (by cases hv : v.ownBlock <;> simp)

theorem Own.sto {w w' : World} {lo : Nat} {e : TypeId} {v : Value} {xs : List Value} (h : Own w lo e v xs) {b : Nat} {cs cs0 : Array Value} {T T0 : TypeId} (hs : Sto w w' b cs T) (hb : Blk w b cs0 T0) (hT : T0 ≠ e) : Own w' lo e v xs :=
  World.ownsRow.kept h hs.grown (.inr (h.ne hb hT))

theorem Blk.app {w w' : World} {lo : Nat} {e : TypeId} {v v' : Value} {xs xs0 : List Value} {b : Nat} {cs : Array Value} {T : TypeId} (h : Blk w b cs T) (ha : App w w' lo e v v' xs) (h0 : Own w lo e v xs0) (hT : T ≠ e) : Blk w' b cs T :=
  (ha.grown.block b h.lt (fun hk => h0.ne h hT hk.symm)).trans h

theorem Bl.app {w0 w w' : World} {lo : Nat} {e : TypeId} {v v' : Value} {xs xs0 : List Value} (hB : Below w0.heap.size w0 w) (ha : App w w' lo e v v' xs) (h0 : Own w lo e v xs0) (hlo : w0.heap.size ≤ lo) : Below w0.heap.size w0 w' :=
  hB.grown ha.grown hB.size (fun k hk => Nat.le_trans hlo (h0.ge k hk))

section
variable {P : Program} {E : Env} {o : Oper} {w : World} {T e : TypeId} {x y : Operand} {v u : Value}

/-- append(v, u): one element, laid in a block of its own before -/
theorem Yv.append {lo b : Nat} {xs : List Value} (ho : o.op = .call { callee := .builtin .append, args := #[x, y], argTypes := #[T, T] }) (hx : E.ev x = some v) (hy : E.ev y = some (.slice (some ⟨b, 0, none⟩) 1 1)) (hT : P.underlying T = some (.slice e))
    (hz : ∃ i, P.info? e = some i ∧ i.size = 1 ∧ i.bytes ≤ 64 ∧ ∃ z, i.zero = some z ∧ z.cells.size = 1) (hown : Own w lo e v xs) (hb : Blk w b #[u] e) (h1 : u.oneCell' = true) (hlen : xs.length ≤ 1048576) (hlo : lo ≤ w.heap.size) :
    ∃ v' w', Yv P E o w v' w' ∧ App w w' lo e v v' (xs ++ [u]) := by
  obtain ⟨i, hi, hs, hby, z, hz1, hz2⟩ := hz
  obtain ⟨v', w', hr, h2, h3, _⟩ := run_append_own (P := P) w lo T o.type e i z 1 i.bytes hT hi hz1 hs rfl hz2 (by omega) v xs.length xs hown ⟨b, 0, none⟩ 1 1 [u] rfl
    (fun j u' hj => (show Blk w b [u].toArray e from hb).cells j u' hj) (fun u' hu' => by rw [List.mem_singleton] at hu'; subst hu'; exact h1) (by unfold maxLen; omega) (by
      have : (xs.length + 1) * i.bytes ≤ (xs.length + 1) * 64 := Nat.mul_le_mul_left _ hby
      omega) hlo
  refine ⟨v', w', fun ρ hρ => ?_, ?_, h3⟩
  · simp [execOp, ho, resolve, invoke, builtin, hρ _ _ hx, hρ _ _ hy, hr]
  · simpa [Own] using h2
end
end Go.Ev
