/- Slices over a block whose cells are known one by one: new bytes, parts, copy. Program-independent. -/
import Derived.Test.YtfipaakafcjjhaaAb6
import Derived.Lib.MakeNoZero
set_option linter.unusedSectionVars false
set_option linter.unusedVariables false
set_option linter.unusedSimpArgs false
namespace Go.Ab
open Go Go.RowKit
section
variable {P : Program} {E : Env} {σ : List Res} {o : Oper} {x y : Operand} {av : AV} {C : Cx} {T T' e : TypeId} {k k' : IntKind}

/-- internal/bytealg.MakeNoZero -/
theorem Yv.noZero {f : FuncId} {ps : Array TypeId} {xs : Array Operand} {ts : Array TypeId} {n : Nat} (ho : o.op = .call { callee := .value (.func f), args := xs, argTypes := ts }) (hf : ∀ (w : World) (args : Array Value), (callFunc f args).run P w = ((Extern.BytealgMakeNoZero.makeNoZero ps #[T] args).run P w).andThen fun v w' => .ok (.value v) w')
    (he : E.evl xs.toList = some [.i (n : Int)]) (hT : P.underlying T = some (.slice e)) (hn : n ≤ 1073741824) (hpos : 0 < n) :
    Yv P E σ o C [] (fun a σ' => ∃ g cap cs, a = .lit (.slice (some ⟨g, 0, none⟩) n cap) ∧ σ' = .box g e cs :: σ ∧ cs.length = cap ∧ n ≤ cap ∧ cap ≤ maxLen) := fun w ρ hg hρ => by
  have h1 := Env.evl_rel hρ he
  obtain ⟨v, us', h2, h3, h4⟩ := h1.head
  have h5 : us' = [] := List.eq_nil_of_length_eq_zero (by simpa using h4.1)
  subst h5
  have h6 := h3.litEq
  subst h6
  have h7 : xs.map ρ = #[.int .i64 n] := by
    apply Array.ext'
    rw [Array.toList_map, h2]
  obtain ⟨cs, hr, hle, hm⟩ := Lib.run_makeNoZero (P := P) w ps T e hT n (by omega)
  have hk : Kp [] w (w.drew.drew.alloc (.cells cs e)) := ⟨rfl, rfl, rfl, by simp, fun k hk _ => heap_alloc_old w.drew.drew _ hk⟩
  refine ⟨_, _, _, _, ⟨w.heap.size, cs.size, cs.toList.map .lit, rfl, rfl, by simp, hle, hm (by unfold maxLen; omega)⟩, tr_new hg hk (.inr rfl) ⟨cs.toList, heap_alloc_new w.drew.drew _, RelL.lits _⟩, ?_, .lit _⟩
  have h8 : ρ (.func f) = .func (.func f) #[] #[] := by
    obtain ⟨us, q1, q2⟩ := (hρ (.func f) _ rfl).fnInv
    have : us = [] := List.eq_nil_of_length_eq_zero (by simpa using q2.1)
    rw [q1, this]
  simp [execOp, ho, resolve, h8, Deferred.ofValue, invoke, h7, hf, hr]

theorem Yp.sliceL3 {a : Option Addr} {l c : Nat} {m n : Int} {y z : Operand} {s : Nat} (ho : o.op = .slice T x none (some y) (some z)) (hx : E.ev x = some (.lit (.slice a l c))) (hy : E.ev y = some (.n k n)) (hz : E.ev z = some (.n k' m)) (hT : P.underlying T = some (.slice e)) (hs : (P.info? e).map (·.size) = some s) (hm : 0 ≤ n ∧ n ≤ m ∧ m ≤ (c : Int)) (hpos : 0 < m) :
    Yp P E σ o (.lit (.slice a n.toNat m.toNat)) := Yp.lits fun ρ hρ w => by
  obtain ⟨j, hj, hj'⟩ := Option.map_eq_some_iff.1 hs
  have h1 : 0 ≤ m ∧ m ≤ (c : Int) := by omega
  have h4 : ¬ m ≤ 0 := by omega
  have h0 : ∀ a : Option Addr, a.map (·.add 0) = a := fun a => by cases a <;> simp [Addr.add]
  simp [execOp, ho, hρ _ _ hx, hρ _ _ hy, hρ _ _ hz, Instr.sliceAt, Instr.slice, Instr.sliceBounds, Instr.sliceBound, run_underlying hT, sizeOf, typeInfo, hj, asIntOf, h1, hm.1, h0, h4]
  intro hc
  exfalso
  omega
theorem Yp.sliceLlo {g of l c : Nat} {m : Int} {y : Operand} (ho : o.op = .slice T x (some y) none none) (hx : E.ev x = some (.lit (.slice (some ⟨g, of, none⟩) l c))) (hy : E.ev y = some (.n k m)) (hT : P.underlying T = some (.slice e)) (hs : (P.info? e).map (·.size) = some 1) (hm : 0 ≤ m ∧ m ≤ (l : Int)) (hlt : m < (c : Int)) :
    Yp P E σ o (.lit (.slice (some ⟨g, of + m.toNat, none⟩) (l - m.toNat) (c - m.toNat))) := Yp.lits fun ρ hρ w => by
  obtain ⟨j, hj, hj'⟩ := Option.map_eq_some_iff.1 hs
  have h4 : ¬ c = m.toNat := by omega
  simp [execOp, ho, hρ _ _ hx, hρ _ _ hy, Instr.sliceAt, Instr.slice, Instr.sliceBounds, Instr.sliceBound, run_underlying hT, sizeOf, typeInfo, hj, hj', asIntOf, hm, h4, add0]
theorem Yp.sliceLhi {a : Option Addr} {l c s : Nat} {n : Int} {z : Operand} (ho : o.op = .slice T x none (some z) none) (hx : E.ev x = some (.lit (.slice a l c))) (hz : E.ev z = some (.n k n)) (hT : P.underlying T = some (.slice e)) (hs : (P.info? e).map (·.size) = some s) (hm : 0 ≤ n ∧ n ≤ (c : Int)) :
    Yp P E σ o (.lit (.slice a n.toNat c)) := Yp.lits fun ρ hρ w => by
  obtain ⟨j, hj, hj'⟩ := Option.map_eq_some_iff.1 hs
  have h0 : ∀ a : Option Addr, a.map (·.add 0) = a := fun a => by cases a <;> simp [Addr.add]
  simp [execOp, ho, hρ _ _ hx, hρ _ _ hz, Instr.sliceAt, Instr.slice, Instr.sliceBounds, Instr.sliceBound, run_underlying hT, sizeOf, typeInfo, hj, asIntOf, hm, h0]

/-- the first n cells behind a slice's address are as -/
def From (E : Env) (σ : List Res) (y : Operand) (sl : Nat) (as : List AV) : Prop := ∀ (A : Nat → Prop) (w : World) (ρ : Operand → Value), Hd A σ w → Ops A w E ρ → ∃ a sc us, ρ y = .slice (some a) sl sc ∧ (∀ j u, us[j]? = some u → w.cell? (a.add j) = some u) ∧ RelL A w as us

theorem flat_ints {k : IntKind} : ∀ (l : List Int), l.flatMap (cN k) = l.map (.n k)
  | [] => rfl
  | x :: l => by rw [List.flatMap_cons, flat_ints l]; rfl

theorem From.sl {l : List Int} (hx : E.ev y = some (.sl 1 (cN .u8) l)) (h0 : 0 < l.length) : From E σ y l.length (l.map (.n .u8)) := fun A w ρ hd hρ => by
  obtain ⟨p, cap, news, h1, h2, h3, _, h5, _⟩ := Src.spec (e := 0) (.inr (.inl hx) : Src σ E y 0 1 (cN .u8) l) hd hρ
  rcases h2 with h2 | ⟨a, rfl, h4⟩
  · omega
  · refine ⟨a, cap, news, h1, h4, ?_⟩
    rwa [flat_ints] at h5
theorem From.box {g of sl c t : Nat} {cs : List AV} (i n : Nat) (hx : E.ev y = some (.lit (.slice (some ⟨g, of, none⟩) sl c))) (hσ : σ[i]? = some (.box g t cs)) : From E σ y sl ((cs.drop of).take n) := fun A w ρ hd hρ => by
  obtain ⟨us, h1, h2⟩ := hd.1 _ (List.mem_of_getElem? hσ)
  refine ⟨⟨g, of, none⟩, c, (us.drop of).take n, (hρ _ _ hx).litEq, fun j u hj => ?_, (RelL.drop of h2).take n⟩
  rw [add0]
  rw [List.getElem?_take] at hj
  split at hj
  · rw [List.getElem?_drop] at hj
    exact h1.cell (by simpa using hj)
  · cases hj

/-- copy(dst, src) into a block whose cells are known -/
theorem Yv.copyB {g of dl dc sl t : Nat} {cs as : List AV} {x y : Operand} (i : Nat) (ho : o.op = .call { callee := .builtin .copy, args := #[x, y], argTypes := #[T, T'] }) (hx : E.ev x = some (.lit (.slice (some ⟨g, of, none⟩) dl dc))) (hσ : σ[i]? = some (.box g t cs)) (hs : From E σ y sl as) (hT : P.underlying T = some (.slice e)) (hz : (P.info? e).map (·.size) = some 1)
    (hn : as.length = Nat.min sl dl) (h1 : as.all acell1 = true) (hle : of + as.length ≤ cs.length) :
    Yv P E σ o C [g] (fun a σ' => a = .i (as.length : Int) ∧ σ' = σ.set i (.box g t (cs.take of ++ as ++ cs.drop (of + as.length)))) := fun w ρ hg hρ => by
  obtain ⟨j, hj, hj'⟩ := Option.map_eq_some_iff.1 hz
  obtain ⟨us, q1, q2⟩ := hg.res _ (List.mem_of_getElem? hσ)
  obtain ⟨a, sc, ns, r1, r2, r3⟩ := hs _ w ρ hg.hd hρ
  have hx' := (hρ _ _ hx).litEq
  have hl := run_loadCells_list (P := P) w a ns r2
  have hst := run_storeCells_at P g of t ns 0 us.toArray w q1 (by simp; rw [q2.1, r3.1]; omega) (r3.one h1)
  simp only [Nat.add_zero] at hst
  have hal : ∀ b, b < w.heap.size → al C σ b → al C (σ.set i (.box g t (cs.take of ++ as ++ cs.drop (of + as.length)))) b ∧ (w.setRow g (us.take of ++ ns ++ us.drop (of + ns.length)).toArray).heap[b]? = w.heap[b]? := fun b hb hA =>
    ⟨⟨hA.1, by rw [blks_set (r' := Res.box g t (cs.take of ++ as ++ cs.drop (of + as.length))) hσ rfl]; exact hA.2⟩, setRow_other w g b _ (fun e => hA.2 (mem_blks.2 ⟨_, List.mem_of_getElem? hσ, by rw [← e]; rfl⟩))⟩
  refine ⟨.int .i64 as.length, w.setRow g (us.take of ++ ns ++ us.drop (of + ns.length)).toArray, _, _, ⟨rfl, rfl⟩, tr_upd hg hσ (kp_setRow w g _) (.inl rfl) ⟨us.take of ++ ns ++ us.drop (of + ns.length), setRow_heap w g us.toArray _ t (0, 0) q1, ?_⟩, ?_, .lit _⟩
  · rw [r3.1]
    exact (((RelL.take of q2).app r3).app (RelL.drop (of + as.length) q2)).mono (by have := hal; rw [r3.1] at this; exact this)
  · have hmin : min sl dl = ns.length := by rw [r3.1, hn]
    have hmin' : Nat.min sl dl = ns.length := hmin
    rw [← r3.1]
    simp [execOp, ho, resolve, invoke, builtin, hx', r1, Builtin.copy_, run_underlying hT, Builtin.lenOf, Builtin.firstCells, sizeOf, typeInfo, hj, hj', hmin', hl, hst, goInt]
end

/-- A block whose first cells are those of a list of data becomes data: in slot t. -/
theorem Sim.frzL {C : Cx} {n : Nat} {E : Env} {σ : List Res} {a : Act} {w : World} {i t g T : Nat} {cs : List AV} {α : Type} [Inhabited α] {c : α → List AV} {l : List α} {cap : Nat} (h : Sim C n E σ a w) (hσ : σ[i]? = some (.box g T cs)) (ht : E.get t = some (.lit (.slice (some ⟨g, 0, none⟩) l.length cap))) (hc : ∀ j, j < l.length → c l[j]! = (cs[j]?).toList) (hl : l.length ≤ cs.length) (hcap : l.length ≤ cap) (hm : l.length ≤ 9223372036854775807) : Sim C n ((t, .sl 1 c l) :: E) (σ.eraseIdx i) a w := by
  refine h.frz hσ ht fun A w v hd hr => ?_
  have hv := hr.litEq
  subst hv
  obtain ⟨us, h1, h2⟩ := hd.1 _ (List.mem_singleton.2 rfl)
  have hget : ∀ j, j < l.length → ∃ av u, cs[j]? = some av ∧ us[j]? = some u ∧ Rel A w av u := fun j hj => by
    have hj' : j < cs.length := by omega
    obtain ⟨u, q1, q2⟩ := RelL.get h2 (List.getElem?_eq_getElem hj')
    exact ⟨_, u, List.getElem?_eq_getElem hj', q1, q2⟩
  refine .sl 1 c l _ cap (fun i _ => (us[i]?).getD undef) hm hcap (fun j hj => ?_) (fun j hj => ?_) (fun j k b hj hb => ?_)
  · obtain ⟨av, u, q1, _⟩ := hget j hj
    rw [hc j hj, q1]; rfl
  · obtain ⟨av, u, q1, q2, q3⟩ := hget j hj
    refine ⟨g, 0, rfl, h1.lt, ⟨.inr (mem_blks.2 ⟨_, List.mem_singleton.2 rfl, rfl⟩), .inr ⟨_, _, h1⟩⟩, fun k hk => ?_⟩
    have : k = 0 := by omega
    subst this
    rw [q2, Nat.zero_add, Nat.mul_one, Nat.add_zero]
    exact h1.cell (by simpa using q2)
  · obtain ⟨av, u, q1, q2, q3⟩ := hget j hj
    rw [hc j hj, q1] at hb
    cases k with
    | zero =>
      simp at hb
      subst hb
      simp only [q2, Option.getD_some]
      exact q3.mono fun b _ hA => ⟨.inl hA, rfl⟩
    | succ k => simp at hb
theorem CW.frzL {P : Program} {C : Cx} {n : Nat} {cd : Code} {Q : Exit → Env → List Res → Prop} {E : Env} {σ : List Res} {g T : Nat} {cs : List AV} {α : Type} [Inhabited α] {c : α → List AV} {cap : Nat} (i t : Nat) (l : List α) (hσ : σ[i]? = some (.box g T cs)) (ht : E.get t = some (.lit (.slice (some ⟨g, 0, none⟩) l.length cap))) (hc : ∀ j, j < l.length → c l[j]! = (cs[j]?).toList) (hl : l.length ≤ cs.length) (hcap : l.length ≤ cap) (hm : l.length ≤ 9223372036854775807)
    (h : CW P C n cd Q ((t, .sl 1 c l) :: E) (σ.eraseIdx i)) : CW P C n cd Q E σ := fun a w ha => h a w (ha.frzL hσ ht hc hl hcap hm)
end Go.Ab
namespace Go.Ab
open Go Go.RowKit
theorem RO.clr {P : Program} {C : Cx} {n : Nat} {ops : Array Oper} {X : List Nat} {A1 : Nat → Prop} {w1 : World} {K : Env → List Res → Prop} {fuel : Nat} {listed : Array Bool} {i : Nat} {Eb E : Env} {σ : List Res} (h : RO P C n ops X A1 w1 K fuel listed i [] E σ) : RO P C n ops X A1 w1 K fuel listed i Eb E σ := fun a w ha _ hS hA =>
  h a w ha (fun t av h => by cases h) hS hA
end Go.Ab
