/- Readings of cells, piece by piece. Program-independent. -/
import Derived.Test.YtgdahkddhecloaaIw1
set_option linter.unusedSectionVars false
set_option linter.unusedVariables false
set_option linter.unusedSimpArgs false
namespace Go.Iv
open Go Go.RowKit

section
variable [U : Uni] {β γ δ : Type}

def castL (t e : Nat) (l : List (U.Dat t)) : Option (List (U.Dat e)) := if h : t = e then some (h ▸ l) else none
theorem castL_ok {t e : Nat} {l : List (U.Dat t)} {l' : List (U.Dat e)} (h : castL t e l = some l') : ∃ he : t = e, he ▸ l = l' := by
  unfold castL at h
  split at h
  · rename_i he; exact ⟨he, Option.some.inj h⟩
  · cases h


def asI (k : IntKind) : AV → Option Int
  | .lit (.int k' n) => if k = k' then some n else none
  | _ => none
def asB : AV → Option Bool
  | .lit (.bool b) => some b
  | _ => none
def asS : AV → Option ByteArray
  | .lit (.string s) => some s
  | _ => none
def asL (t : Nat) : AV → Option (List (U.Dat t))
  | .sl t' l => castL t' t l
  | .lit (.slice none 0 0) => some []
  | _ => none

/-- f reads a cell, and c is the cell of what it reads -/
def P1 (f : AV → Option β) (c : β → AV) : Prop := ∀ a b, f a = some b → ∀ A w v, Rel A w a v → Rel A w (c b) v
theorem P1.i (k : IntKind) : P1 (asI k) (AVq.n k) := fun a b h A w v hr => by
  unfold asI at h
  split at h
  · split at h
    · rename_i hk
      subst hk
      cases h
      exact hr
    · cases h
  · cases h
theorem P1.b : P1 asB AVq.b := fun a b h A w v hr => by
  unfold asB at h
  split at h
  · cases h; exact hr
  · cases h
theorem P1.s : P1 asS AVq.s := fun a b h A w v hr => by
  unfold asS at h
  split at h
  · cases h; exact hr
  · cases h
theorem P1.l (t : Nat) : P1 (asL t) (AVq.sl t) := fun a b h A w v hr => by
  unfold asL at h
  split at h
  · obtain ⟨rfl, rfl⟩ := castL_ok h
    exact hr
  · cases h
    exact (Vw.nil (σ := []) t A w v ⟨fun r h => (by cases h), fun b h => (by cases h)⟩ hr).mono fun b _ hA => ⟨hA.elim id (fun h => (by cases h)), rfl⟩
  · cases h

def pkN : List AV → Option Unit
  | [] => some ()
  | _ => none
def pkC (f : AV → Option β) (q : List AV → Option γ) : List AV → Option (β × γ)
  | a :: cs => (f a).bind fun b => (q cs).map fun g => (b, g)
  | [] => none
/-- q reads cells, and c are the cells of what it reads -/
def Pk (q : List AV → Option γ) (c : γ → List AV) : Prop := ∀ cs g, q cs = some g → ∀ A w us, RelL A w cs us → RelL A w (c g) us
theorem Pk.nil : Pk pkN (fun _ => []) := fun cs g h A w us hr => by
  unfold pkN at h
  split at h
  · exact hr
  · cases h
theorem Pk.cons {f : AV → Option β} {c : β → AV} {q : List AV → Option γ} {d : γ → List AV} (h : P1 f c) (hq : Pk q d) : Pk (pkC f q) (fun x => c x.1 :: d x.2) := fun cs g hg A w us hr => by
  unfold pkC at hg
  split at hg
  · obtain ⟨b, h1, hg⟩ := Option.bind_eq_some_iff.1 hg
    obtain ⟨g', h2, rfl⟩ := Option.map_eq_some_iff.1 hg
    obtain ⟨v, us', rfl, h3, h4⟩ := hr.head
    exact RelL.cons (h _ _ h1 A w v h3) (hq _ _ h2 A w us' h4)
  · cases hg
theorem Pk.map {q : List AV → Option γ} {d : γ → List AV} {c : δ → List AV} (e : γ → δ) (hq : Pk q d) (hc : ∀ g, c (e g) = d g) : Pk (fun cs => (q cs).map e) c := fun cs g hg A w us hr => by
  obtain ⟨g', h1, rfl⟩ := Option.map_eq_some_iff.1 hg
  rw [hc]
  exact hq _ _ h1 A w us hr
def flatB : AV → Bool
  | .lit _ => true
  | .sl _ _ => true
  | _ => false
theorem ltd_flat (cs : List AV) (h : cs.all flatB = true) (n : Nat) : ∀ c ∈ cs, Ltd n c := fun c hc => by
  have := List.all_eq_true.1 h c hc
  cases c <;> first | (cases this; done) | exact .lit _ | exact .sl _ _
theorem sub_flat (cs : List AV) (h : cs.all flatB = true) (ρ : Gh) : cs.map (AVq.sub ρ) = cs := by
  have : cs.map (AVq.sub ρ) = cs.map id := List.map_congr_left fun c hc => by
    have := List.all_eq_true.1 h c hc
    cases c <;> first | (cases this; done) | simp only [AVq.sub, id]
  rw [this, List.map_id]
theorem Pk.none {c : γ → List AV} : Pk (fun _ => Option.none) c := fun cs g hg => by cases hg
end
end Go.Iv
