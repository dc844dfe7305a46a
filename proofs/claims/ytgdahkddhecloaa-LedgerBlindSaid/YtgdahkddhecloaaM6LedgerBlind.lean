/- Merged: Ls, Ld, Pl, Lp5, Lq5, Lr5, Lw5, Lu, Lv, Lx, Ly. -/
import Derived.Test.YtgdahkddhecloaaM4LedgerBlind
import Derived.Test.YtgdahkddhecloaaM5LedgerBlind
import Derived.Test.YtgdahkddhecloaaM3LedgerBlind
section
set_option linter.unusedSectionVars false
set_option linter.unusedVariables false
set_option linter.unusedSimpArgs false
set_option maxRecDepth 100000
namespace Go.Proofs.Ytgdahkddhecloaa
open Go Go.Iv
def frW (w : YtgdahkddhecloaaD.Write) : Write := ⟨w.fAt, w.fData⟩
def frD (d : YtgdahkddhecloaaD.Disk) : Disk := ⟨d.fDurable, d.fPending.map frW, d.fLeft, d.fDown⟩
theorem toW_frW (w : YtgdahkddhecloaaD.Write) : toW (frW w) = w := rfl
theorem toD_frD (d : YtgdahkddhecloaaD.Disk) : toD (frD d) = d := by
  obtain ⟨a, b, c, e⟩ := d
  show (YtgdahkddhecloaaD.Disk.mk a ((b.map frW).map toW) c e) = _
  rw [List.map_map, show (toW ∘ frW) = id from rfl, List.map_id]
namespace S
/-! ### 7: keyhole/keyholelaw50.known -/
abbrev E7 : Type := Bool
abbrev P7_e : Type := (Bool × Unit) × (Unit)
noncomputable def rb7_e : St → Option P7_e := stR 0 (slC 0 asB slN) rsN
noncomputable def pb7_e : P7_e → St := stP 0 (fun z => [(0, .b z.1)]) (fun z => [])
noncomputable def mk7_e (z : P7_e) : E7 := z.1.1
noncomputable def pt7_e (x : E7) : St := pb7_e ((x, ()), (()))
noncomputable def rd7_e : St → Option E7 := rdC 0 [] [0] (rdM mk7_e rb7_e)
theorem rb7_e_ok (n : Nat) : RdOk 0 n rb7_e pb7_e := stR_ok (.cons .b .nil) .nil
theorem rd7_e_ok (n : Nat) : RdOk 0 n rd7_e pt7_e := rdC_ok ((rb7_e_ok n).m mk7_e (pat' := pt7_e) fun _ => rfl)
noncomputable def o7 (x : E7) : Out := match (match outOf Try.prog 7 (pt7_e x) with
    | some ds => some (Out.mk (resA ds) (keepR (pt7_e x).R 0 (resA ds)) (pt7_e x).nx)
    | none => none) with
  | some o => o
  | none => ⟨.tup [], [], 0⟩
theorem fnok7 : fnOk Try.prog 7 := ⟨_, Try.func7, by kernel_rfl, by kernel_rfl⟩
def m7 : E7 := true
def Gv7 : Prop := FnY Try.prog 7 [] [] 0 (o7 m7)
noncomputable def e7 (F : Orc) : Orc := orL 7 false pkN (fun g => some m7 : (Unit) → Option E7) o7 F
theorem e7_okv (hv : Gv7) {F : Orc} (h : OrcG Try.prog F) : OrcG Try.prog (e7 F) := orL_g (sc := scU) h scU_ok fnok7 (ca := fun g => []) (.nil : PkN pkN _) (fun b => by kernel_rfl) (fun b => by kernel_rfl) (fun g b hb => by cases hb; exact hv)
theorem e7_pure {F : Orc} {f : Nat} (h : PureF F f) : PureF (e7 F) f := orL_pure h (fun b => by kernel_rfl)
theorem o7_eq : o7 m7 = ⟨.b true, [], 0⟩ := by kernel_rfl
theorem gv7 : Gv7 := by
  unfold Gv7
  rw [o7_eq]
  exact fy7
/-! ### 45: keyhole/disk.Valid -/
abbrev E45 : Type := Bool
abbrev P45_e : Type := (Bool × Unit) × (Unit)
noncomputable def rb45_e : St → Option P45_e := stR 0 (slC 2 asB slN) rsN
noncomputable def pb45_e : P45_e → St := stP 0 (fun z => [(2, .b z.1)]) (fun z => [])
noncomputable def mk45_e (z : P45_e) : E45 := z.1.1
noncomputable def pt45_e (x : E45) : St := pb45_e ((x, ()), (()))
noncomputable def rd45_e : St → Option E45 := rdC 0 [] [2] (rdM mk45_e rb45_e)
theorem rb45_e_ok (n : Nat) : RdOk 0 n rb45_e pb45_e := stR_ok (.cons .b .nil) .nil
theorem rd45_e_ok (n : Nat) : RdOk 0 n rd45_e pt45_e := rdC_ok ((rb45_e_ok n).m mk45_e (pat' := pt45_e) fun _ => rfl)
noncomputable def o45 (x : E45) : Out := match (match outOf Try.prog 45 (pt45_e x) with
    | some ds => some (Out.mk (resA ds) (keepR (pt45_e x).R 0 (resA ds)) (pt45_e x).nx)
    | none => none) with
  | some o => o
  | none => ⟨.tup [], [], 0⟩
theorem fnok45 : fnOk Try.prog 45 := ⟨_, Try.func45, by kernel_rfl, by kernel_rfl⟩
def m45 (a0 : Disk) : Option E45 := YtgdahkddhecloaaD.m45 (toD a0)
def Gv45 : Prop := ∀ (a0 : Disk) (r : E45), m45 a0 = some r → FnY Try.prog 45 [.agg (uni.cells 63 a0)] [] 0 (o45 r)
noncomputable def e45 (F : Orc) : Orc := orL 45 false (pkC (asGc 63) pkN) (fun g => m45 g.1 : (Disk × Unit) → Option E45) o45 F
theorem e45_okv (hv : Gv45) {F : Orc} (h : OrcG Try.prog F) : OrcG Try.prog (e45 F) := orL_g (sc := scU) h scU_ok fnok45 (ca := fun g => [.agg (uni.cells 63 g.1)]) ((.cons (.g 63) .nil) : PkN (pkC (asGc 63) pkN) _) (fun b => by kernel_rfl) (fun b => by kernel_rfl) (fun g b hb => hv g.1 b hb)
theorem e45_pure {F : Orc} {f : Nat} (h : PureF F f) : PureF (e45 F) f := orL_pure h (fun b => by kernel_rfl)
theorem gv45 : Gv45 := fun a0 r h => by
  rw [show o45 r = ⟨.b r, [], 0⟩ from by cases r <;> kernel_rfl]
  exact fnY_ofFn (Fn.ofAb (YtgdahkddhecloaaD.m45_ok (toD a0) h) (BrL.cons (br_disk a0) .nil) (Br.lit _)) (subs_id (by kernel_rfl)) (fun ρ => cloB_sub 2 (by kernel_rfl))
/-! ### 46: keyhole/disk.Write -/
abbrev E46 : Type := Disk × Int
abbrev P46_e : Type := (Unit × Int × Unit) × (Disk × Unit)
noncomputable def rb46_e : St → Option P46_e := stR 1 (slC 6 (asP 0 0) (slC 7 (asI .i64) slN)) (rsN2 0 63 (asCs 63) rsN)
noncomputable def pb46_e : P46_e → St := stP 1 (fun z => [(6, .ptr 0 0), (7, .n .i64 z.2.1)]) (fun z => [(0, .box 63 (uni.cells 63 z.1))])
noncomputable def mk46_e (z : P46_e) : E46 := (z.2.1, z.1.2.1)
noncomputable def pt46_e (x : E46) : St := pb46_e (((), x.2, ()), (x.1, ()))
noncomputable def rd46_e : St → Option E46 := rdC 0 [] [6, 7] (rdM mk46_e rb46_e)
theorem rb46_e_ok (n : Nat) : RdOk 0 n rb46_e pb46_e := stR_ok (.cons (.p 0 0) (.cons (.i .i64) .nil)) (.boxN (PkN.parse 63) .nil)
theorem rd46_e_ok (n : Nat) : RdOk 0 n rd46_e pt46_e := rdC_ok ((rb46_e_ok n).m mk46_e (pat' := pt46_e) fun _ => rfl)
noncomputable def o46 (x : E46) : Out := match (match outOf Try.prog 46 (pt46_e x) with
    | some ds => some (Out.mk (resA ds) (keepR (pt46_e x).R 0 (resA ds)) (pt46_e x).nx)
    | none => none) with
  | some o => o
  | none => ⟨.tup [], [], 0⟩
theorem fnok46 : fnOk Try.prog 46 := ⟨_, Try.func46, by kernel_rfl, by kernel_rfl⟩
def m46 (a0 : Disk) (a1 : Int) (a2 : List Int) : Option E46 := (YtgdahkddhecloaaD.m46 (toD a0) a1 a2).map fun r => (frD r.1, r.2)
def Gv46 : Prop := ∀ (a0 : Disk) (a1 : Int) (a2 : List Int) (r : E46), m46 a0 a1 a2 = some r → FnY Try.prog 46 [.agg (uni.cells 63 a0), .n .i64 a1, .sl 5 a2] [] 0 (o46 r)
noncomputable def e46 (F : Orc) : Orc := orY 46 0 (qy0 (pkC (asGc 63) (pkC (asI .i64) (pkC (asL 5) pkN)))) (fun g => m46 g.1 g.2.1 g.2.2.1 : (Disk × Int × (List Int) × Unit) → Option E46) o46 F
theorem e46_okv (hv : Gv46) {F : Orc} (h : OrcG Try.prog F) : OrcG Try.prog (e46 F) := orY_g h fnok46 (qy0_ok (ca := fun g => [.agg (uni.cells 63 g.1), .n .i64 g.2.1, .sl 5 g.2.2.1]) ((.cons (.g 63) (.cons (.i .i64) (.cons (.l 5) .nil))) : PkN (pkC (asGc 63) (pkC (asI .i64) (pkC (asL 5) pkN))) _)) (fun b => by kernel_rfl) (fun g b hb => hv g.1 g.2.1 g.2.2.1 b hb)
theorem e46_skip {F : Orc} {f : Nat} (hne : Nat.beq f 46 = false) (h : PureF F f) : PureF (e46 F) f := orY_skip hne h
theorem map_frD {o : Option (YtgdahkddhecloaaD.Disk × Int)} {r : Disk × Int} (h : o.map (fun r => (frD r.1, r.2)) = some r) : ∃ q, o = some q ∧ r = (frD q.1, q.2) := by
  cases o with
  | none => cases h
  | some q => exact ⟨q, rfl, (Option.some.inj h).symm⟩
theorem br_frD (d : YtgdahkddhecloaaD.Disk) : Br (.agg (uni.cells 63 (frD d))) (.agg [.sl 1 (Ab.cL 1 (Ab.cN .u8)) d.fDurable, .sl 2 YtgdahkddhecloaaD.Write.cells d.fPending, .i d.fLeft, .b d.fDown]) := by
  have h := br_disk (frD d)
  rw [toD_frD] at h
  exact h
theorem gv46 : Gv46 := fun a0 a1 a2 r h => by
  obtain ⟨q, h1, rfl⟩ := map_frD h
  rw [show o46 (frD q.1, q.2) = ⟨.tup [.agg (uni.cells 63 (frD q.1)), .n .i64 q.2], [], (o46 (frD q.1, q.2)).c⟩ from by kernel_rfl]
  exact fnY_ofFn (Fn.ofAb (YtgdahkddhecloaaD.m46_ok (toD a0) a1 a2 h1) (BrL.cons (br_disk a0) (BrL.cons (.lit _) (BrL.cons (br_bytes _) .nil))) (Br.tup (BrL.cons (br_frD _) (BrL.cons (.lit _) .nil)))) (subs_id (by kernel_rfl)) (fun ρ => cloB_sub 2 (by kernel_rfl))
/-! ### 47: keyhole/disk.Sync -/
abbrev E47 : Type := Disk × Int
abbrev P47_e : Type := (Unit × Int × Unit) × (Disk × Unit)
noncomputable def rb47_e : St → Option P47_e := stR 1 (slC 2 (asP 0 0) (slC 3 (asI .i64) slN)) (rsN2 0 63 (asCs 63) rsN)
noncomputable def pb47_e : P47_e → St := stP 1 (fun z => [(2, .ptr 0 0), (3, .n .i64 z.2.1)]) (fun z => [(0, .box 63 (uni.cells 63 z.1))])
noncomputable def mk47_e (z : P47_e) : E47 := (z.2.1, z.1.2.1)
noncomputable def pt47_e (x : E47) : St := pb47_e (((), x.2, ()), (x.1, ()))
noncomputable def rd47_e : St → Option E47 := rdC 0 [] [2, 3] (rdM mk47_e rb47_e)
theorem rb47_e_ok (n : Nat) : RdOk 0 n rb47_e pb47_e := stR_ok (.cons (.p 0 0) (.cons (.i .i64) .nil)) (.boxN (PkN.parse 63) .nil)
theorem rd47_e_ok (n : Nat) : RdOk 0 n rd47_e pt47_e := rdC_ok ((rb47_e_ok n).m mk47_e (pat' := pt47_e) fun _ => rfl)
noncomputable def o47 (x : E47) : Out := match (match outOf Try.prog 47 (pt47_e x) with
    | some ds => some (Out.mk (resA ds) (keepR (pt47_e x).R 0 (resA ds)) (pt47_e x).nx)
    | none => none) with
  | some o => o
  | none => ⟨.tup [], [], 0⟩
theorem fnok47 : fnOk Try.prog 47 := ⟨_, Try.func47, by kernel_rfl, by kernel_rfl⟩
def m47 (a0 : Disk) : Option E47 := (YtgdahkddhecloaaD.m47 (toD a0)).map fun r => (frD r.1, r.2)
def Gv47 : Prop := ∀ (a0 : Disk) (r : E47), m47 a0 = some r → FnY Try.prog 47 [.agg (uni.cells 63 a0)] [] 0 (o47 r)
noncomputable def e47 (F : Orc) : Orc := orY 47 0 (qy0 (pkC (asGc 63) pkN)) (fun g => m47 g.1 : (Disk × Unit) → Option E47) o47 F
theorem e47_okv (hv : Gv47) {F : Orc} (h : OrcG Try.prog F) : OrcG Try.prog (e47 F) := orY_g h fnok47 (qy0_ok (ca := fun g => [.agg (uni.cells 63 g.1)]) ((.cons (.g 63) .nil) : PkN (pkC (asGc 63) pkN) _)) (fun b => by kernel_rfl) (fun g b hb => hv g.1 b hb)
theorem e47_skip {F : Orc} {f : Nat} (hne : Nat.beq f 47 = false) (h : PureF F f) : PureF (e47 F) f := orY_skip hne h
theorem gv47 : Gv47 := fun a0 r h => by
  obtain ⟨q, h1, rfl⟩ := map_frD h
  rw [show o47 (frD q.1, q.2) = ⟨.tup [.agg (uni.cells 63 (frD q.1)), .n .i64 q.2], [], (o47 (frD q.1, q.2)).c⟩ from by kernel_rfl]
  exact fnY_ofFn (Fn.ofAb (YtgdahkddhecloaaD.m47_ok (toD a0) h1) (BrL.cons (br_disk a0) .nil) (Br.tup (BrL.cons (br_frD _) (BrL.cons (.lit _) .nil)))) (subs_id (by kernel_rfl)) (fun ρ => cloB_sub 2 (by kernel_rfl))
/-! ### 48: keyhole/disk.Read -/
abbrev E48 : Type := (List Int) × Int
abbrev P48_e : Type := (Unit × Unit × Unit) × ((((List Int) × Unit)) × ((Int × Unit)) × Unit)
noncomputable def rb48_e : St → Option P48_e := stR 2 (slC 4 (asP 0 0) (slC 5 (asP 1 0) slN)) (rsN2 0 24 (pkC (asL 5) pkN) (rsN2 1 26 (pkC (asI .i64) pkN) rsN))
noncomputable def pb48_e : P48_e → St := stP 2 (fun z => [(4, .ptr 0 0), (5, .ptr 1 0)]) (fun z => [(0, .box 24 [.sl 5 z.1.1]), (1, .box 26 [.n .i64 z.2.1.1])])
noncomputable def mk48_e (z : P48_e) : E48 := (z.2.1.1, z.2.2.1.1)
noncomputable def pt48_e (x : E48) : St := pb48_e (((), (), ()), ((x.1, ()), (x.2, ()), ()))
noncomputable def rd48_e : St → Option E48 := rdC 0 [] [4, 5] (rdM mk48_e rb48_e)
theorem rb48_e_ok (n : Nat) : RdOk 0 n rb48_e pb48_e := stR_ok (.cons (.p 0 0) (.cons (.p 1 0) .nil)) (.boxN (.cons (.l 5) .nil) (.boxN (.cons (.i .i64) .nil) .nil))
theorem rd48_e_ok (n : Nat) : RdOk 0 n rd48_e pt48_e := rdC_ok ((rb48_e_ok n).m mk48_e (pat' := pt48_e) fun _ => rfl)
noncomputable def o48 (x : E48) : Out := match (match outOf Try.prog 48 (pt48_e x) with
    | some ds => some (Out.mk (resA ds) (keepR (pt48_e x).R 0 (resA ds)) (pt48_e x).nx)
    | none => none) with
  | some o => o
  | none => ⟨.tup [], [], 0⟩
theorem fnok48 : fnOk Try.prog 48 := ⟨_, Try.func48, by kernel_rfl, by kernel_rfl⟩
def m48 (a0 : Disk) (a1 : Int) : Option E48 := YtgdahkddhecloaaD.m48 (toD a0) a1
def Gv48 : Prop := ∀ (a0 : Disk) (a1 : Int) (r : E48), m48 a0 a1 = some r → FnY Try.prog 48 [.agg (uni.cells 63 a0), .n .i64 a1] [] 0 (o48 r)
noncomputable def e48 (F : Orc) : Orc := orY 48 0 (qy0 (pkC (asGc 63) (pkC (asI .i64) pkN))) (fun g => m48 g.1 g.2.1 : (Disk × Int × Unit) → Option E48) o48 F
theorem e48_okv (hv : Gv48) {F : Orc} (h : OrcG Try.prog F) : OrcG Try.prog (e48 F) := orY_g h fnok48 (qy0_ok (ca := fun g => [.agg (uni.cells 63 g.1), .n .i64 g.2.1]) ((.cons (.g 63) (.cons (.i .i64) .nil)) : PkN (pkC (asGc 63) (pkC (asI .i64) pkN)) _)) (fun b => by kernel_rfl) (fun g b hb => hv g.1 g.2.1 b hb)
theorem e48_skip {F : Orc} {f : Nat} (hne : Nat.beq f 48 = false) (h : PureF F f) : PureF (e48 F) f := orY_skip hne h
theorem gv48 : Gv48 := fun a0 a1 r h => by
  rw [show o48 r = ⟨.tup [.sl 5 r.1, .n .i64 r.2], [], (o48 r).c⟩ from by kernel_rfl]
  exact fnY_ofFn (Fn.ofAb (YtgdahkddhecloaaD.m48_ok (toD a0) a1 h) (BrL.cons (br_disk a0) (BrL.cons (.lit _) .nil)) (Br.tup (BrL.cons (br_bytes _) (BrL.cons (.lit _) .nil)))) (subs_id (by kernel_rfl)) (fun ρ => cloB_sub 2 (by kernel_rfl))
/-! ### 60: slices.Clone[[]byte,byte] -/
abbrev E60 : Type := List Int
abbrev P60_e : Type := (Unit × Unit) × ((List Int) × Unit)
noncomputable def rb60_e : St → Option P60_e := stR 1 (slC 2 (asO 0) slN) (rsR 0 5 rsN)
noncomputable def pb60_e : P60_e → St := stP 1 (fun z => [(2, .own 0)]) (fun z => [(0, .row 5 z.1)])
noncomputable def mk60_e (z : P60_e) : E60 := z.2.1
noncomputable def pt60_e (x : E60) : St := pb60_e (((), ()), (x, ()))
noncomputable def rd60_e : St → Option E60 := rdC 0 [] [2] (rdF (ownS 2 [] 5) (rdC 0 [] [2] (rdM mk60_e rb60_e)))
theorem rb60_e_ok (n : Nat) : RdOk 0 n rb60_e pb60_e := stR_ok (.cons (.o 0) .nil) (.row .nil)
theorem rd60_e_ok (n : Nat) : RdOk 0 n rd60_e pt60_e := rdC_ok (rdF_ok (.s 2 [] 5) (rdC_ok ((rb60_e_ok n).m mk60_e (pat' := pt60_e) fun _ => rfl)))
noncomputable def o60 (x : E60) : Out := match (match outOf Try.prog 60 (pt60_e x) with
    | some ds => some (Out.mk (resA ds) (keepR (pt60_e x).R 0 (resA ds)) (pt60_e x).nx)
    | none => none) with
  | some o => o
  | none => ⟨.tup [], [], 0⟩
noncomputable def m60 (a0 : List Int) : Option E60 := if a0.length ≤ 1073741824 then some a0 else none
theorem fa60 : FnAn Try.prog or0 0 300 60 .no := fnAn_of (l := []) Try.func60 (bodyOf_eq (by kernel_rfl)) (by kernel_rfl) fun p hp => by
  cases hp
theorem ca60 (x : Int) (xs : List Int) : callR Try.prog or0 300 .no 60 [.sl 5 (x :: xs)] [] 0 rd60_e = if ([] ++ (x :: xs)).length ≤ 1073741824 then some ([] ++ (x :: xs)) else none := by kernel_rfl
theorem cb60 (c : Nat) : callR Try.prog or0 300 .no 60 [.lit (.slice none 0 c)] [] 0 rd60_e = some [] := by kernel_rfl
theorem cc60 (a : Addr) (c : Nat) : callR Try.prog or0 300 .no 60 [.lit (.slice (some a) 0 c)] [] 0 rd60_e = some [] := by kernel_rfl
theorem fnok60 : fnOk Try.prog 60 := ⟨_, Try.func60, by kernel_rfl, by kernel_rfl⟩
theorem fn60 (a0 : List Int) (r : E60) (h : m60 a0 = some r) : fnOk Try.prog 60 ∧ FnY Try.prog 60 [.sl 5 a0] [] 0 (o60 r) := by
  refine ⟨fnok60, ?_⟩
  cases a0 with
  | cons x xs => exact (fnY_of (p := r) or0_g fa60 rd60_e_ok (fun p => by kernel_rfl) (ltd_of (by kernel_rfl)) (rltd_of (by kernel_rfl)) ((ca60 x xs).trans (by rw [List.nil_append]; exact h))).2
  | nil =>
    cases h
    exact fnY_nil (fun c => (fnY_of (p := []) or0_g fa60 rd60_e_ok (fun p => by kernel_rfl) (ltd_of (by kernel_rfl)) (rltd_of (by kernel_rfl)) (cb60 c)).2) (fun a c => (fnY_of (p := []) or0_g fa60 rd60_e_ok (fun p => by kernel_rfl) (ltd_of (by kernel_rfl)) (rltd_of (by kernel_rfl)) (cc60 a c)).2)
noncomputable def e60 (F : Orc) : Orc := orL 60 false (pkC (asL 5) pkN) (fun g => m60 g.1 : ((List Int) × Unit) → Option E60) o60 F
theorem e60_ok {F : Orc} (h : OrcG Try.prog F) : OrcG Try.prog (e60 F) := orL_g (sc := scU) h scU_ok fnok60 (ca := fun g => [.sl 5 g.1]) ((.cons (.l 5) .nil) : PkN (pkC (asL 5) pkN) _) (fun b => by kernel_rfl) (fun b => by kernel_rfl) (fun g b hb => (fn60 g.1 b hb).2)
theorem e60_skip {F : Orc} {f : Nat} (hne : Nat.beq f 60 = false) (h : PureF F f) : PureF (e60 F) f := orL_skip hne h
/-! ### 63: bytes.Clone -/
abbrev E63 : Type := List Int
abbrev P63_e : Type := (Unit × Unit) × ((List Int) × Unit)
noncomputable def rb63_e : St → Option P63_e := stR 1 (slC 2 (asO 0) slN) (rsR 0 5 rsN)
noncomputable def pb63_e : P63_e → St := stP 1 (fun z => [(2, .own 0)]) (fun z => [(0, .row 5 z.1)])
noncomputable def mk63_e (z : P63_e) : E63 := z.2.1
noncomputable def pt63_e (x : E63) : St := pb63_e (((), ()), (x, ()))
noncomputable def rd63_e : St → Option E63 := rdC 0 [] [2] (rdF (ownS 2 [] 5) (rdC 0 [] [2] (rdM mk63_e rb63_e)))
theorem rb63_e_ok (n : Nat) : RdOk 0 n rb63_e pb63_e := stR_ok (.cons (.o 0) .nil) (.row .nil)
theorem rd63_e_ok (n : Nat) : RdOk 0 n rd63_e pt63_e := rdC_ok (rdF_ok (.s 2 [] 5) (rdC_ok ((rb63_e_ok n).m mk63_e (pat' := pt63_e) fun _ => rfl)))
noncomputable def o63 (x : E63) : Out := match (match outOf Try.prog 63 (pt63_e x) with
    | some ds => some (Out.mk (resA ds) (keepR (pt63_e x).R 0 (resA ds)) (pt63_e x).nx)
    | none => none) with
  | some o => o
  | none => ⟨.tup [], [], 0⟩
noncomputable def m63 (a0 : List Int) : Option E63 := if a0.length ≤ 1073741824 then some a0 else none
theorem fa63 : FnAn Try.prog or0 0 300 63 .no := fnAn_of (l := []) Try.func63 (bodyOf_eq (by kernel_rfl)) (by kernel_rfl) fun p hp => by
  cases hp
theorem ca63 (x : Int) (xs : List Int) : callR Try.prog or0 300 .no 63 [.sl 5 (x :: xs)] [] 0 rd63_e = if ([] ++ (x :: xs)).length ≤ 1073741824 then some ([] ++ (x :: xs)) else none := by kernel_rfl
theorem cb63 (c : Nat) : callR Try.prog or0 300 .no 63 [.lit (.slice none 0 c)] [] 0 rd63_e = some [] := by kernel_rfl
theorem cc63 (a : Addr) (c : Nat) : callR Try.prog or0 300 .no 63 [.lit (.slice (some a) 0 c)] [] 0 rd63_e = some [] := by kernel_rfl
theorem fnok63 : fnOk Try.prog 63 := ⟨_, Try.func63, by kernel_rfl, by kernel_rfl⟩
theorem fn63 (a0 : List Int) (r : E63) (h : m63 a0 = some r) : fnOk Try.prog 63 ∧ FnY Try.prog 63 [.sl 5 a0] [] 0 (o63 r) := by
  refine ⟨fnok63, ?_⟩
  cases a0 with
  | cons x xs => exact (fnY_of (p := r) or0_g fa63 rd63_e_ok (fun p => by kernel_rfl) (ltd_of (by kernel_rfl)) (rltd_of (by kernel_rfl)) ((ca63 x xs).trans (by rw [List.nil_append]; exact h))).2
  | nil =>
    cases h
    exact fnY_nil (fun c => (fnY_of (p := []) or0_g fa63 rd63_e_ok (fun p => by kernel_rfl) (ltd_of (by kernel_rfl)) (rltd_of (by kernel_rfl)) (cb63 c)).2) (fun a c => (fnY_of (p := []) or0_g fa63 rd63_e_ok (fun p => by kernel_rfl) (ltd_of (by kernel_rfl)) (rltd_of (by kernel_rfl)) (cc63 a c)).2)
noncomputable def e63 (F : Orc) : Orc := orL 63 false (pkC (asL 5) pkN) (fun g => m63 g.1 : ((List Int) × Unit) → Option E63) o63 F
theorem e63_ok {F : Orc} (h : OrcG Try.prog F) : OrcG Try.prog (e63 F) := orL_g (sc := scU) h scU_ok fnok63 (ca := fun g => [.sl 5 g.1]) ((.cons (.l 5) .nil) : PkN (pkC (asL 5) pkN) _) (fun b => by kernel_rfl) (fun b => by kernel_rfl) (fun g b hb => (fn63 g.1 b hb).2)
theorem e63_skip {F : Orc} {f : Nat} (hne : Nat.beq f 63 = false) (h : PureF F f) : PureF (e63 F) f := orL_skip hne h
/-! ### 49: keyhole/ledger.copied -/
noncomputable def F49 : Orc := (e63 or0)
theorem F49_ok : OrcG Try.prog F49 := (e63_ok or0_g)
structure L49_1 where
  t29 : List Write
  t30 : Int
  t31 : Int
  b0 : Disk
  b1 : Disk
abbrev P49_1 : Type := (Unit × Unit × (List Write) × Int × Int × Unit) × (((Unit × Unit × Int × Bool × Unit)) × ((Unit × Unit × Int × Bool × Unit)) × (List (List Int)) × (List Write) × Unit)
noncomputable def rb49_1 : St → Option P49_1 := stR 4 (slC 2 (asP 0 0) (slC 3 (asP 1 0) (slC 29 (asL 90) (slC 30 (asI .i64) (slC 31 (asI .i64) slN))))) (rsN2 0 63 (pkC asNs (pkC asNs (pkC (asI .i64) (pkC asB pkN)))) (rsN2 1 63 (pkC (asO 2) (pkC (asO 3) (pkC (asI .i64) (pkC asB pkN)))) (rsR 2 24 (rsR 3 90 rsN))))
noncomputable def pb49_1 : P49_1 → St := stP 4 (fun z => [(2, .ptr 0 0), (3, .ptr 1 0), (29, .sl 90 z.2.2.1), (30, .n .i64 z.2.2.2.1), (31, .n .i64 z.2.2.2.2.1)]) (fun z => [(0, .box 63 [.lit (.slice none 0 0), .lit (.slice none 0 0), .n .i64 z.1.2.2.1, .b z.1.2.2.2.1]), (1, .box 63 [.own 2, .own 3, .n .i64 z.2.1.2.2.1, .b z.2.1.2.2.2.1]), (2, .row 24 z.2.2.1), (3, .row 90 z.2.2.2.1)])
noncomputable def mk49_1 (z : P49_1) : L49_1 := ⟨z.1.2.2.1, z.1.2.2.2.1, z.1.2.2.2.2.1, (Disk.mk [] [] z.2.1.2.2.1 z.2.1.2.2.2.1), (Disk.mk z.2.2.2.1 z.2.2.2.2.1 z.2.2.1.2.2.1 z.2.2.1.2.2.2.1)⟩
noncomputable def pt49_1 (x : L49_1) : St := pb49_1 (((), (), x.t29, x.t30, x.t31, ()), (((), (), x.b0.fLeft, x.b0.fDown, ()), ((), (), x.b1.fLeft, x.b1.fDown, ()), x.b1.fDurable, x.b1.fPending, ()))
noncomputable def rd49_1 : St → Option L49_1 := rdC 0 [] [2, 3, 29, 30, 31] (rdF (ownC 1 1 [] 90) (rdC 0 [] [2, 3, 29, 30, 31] (rdM mk49_1 rb49_1)))
theorem rb49_1_ok (n : Nat) : RdOk 0 n rb49_1 pb49_1 := stR_ok (.cons (.p 0 0) (.cons (.p 1 0) (.cons (.l 90) (.cons (.i .i64) (.cons (.i .i64) .nil))))) (.boxN (.cons .ns (.cons .ns (.cons (.i .i64) (.cons .b .nil)))) (.boxN (.cons (.o 2) (.cons (.o 3) (.cons (.i .i64) (.cons .b .nil)))) (.row (.row .nil))))
theorem rd49_1_ok (n : Nat) : RdOk 0 n rd49_1 pt49_1 := rdC_ok (rdF_ok (.c 1 1 [] 90) (rdC_ok ((rb49_1_ok n).m mk49_1 (pat' := pt49_1) fun _ => rfl)))
noncomputable def n49_1 (p : L49_1) : Option (Option L49_1) :=
  bif decide (p.t31 < p.t30) then
    if (0 : Int) ≤ p.t31 ∧ p.t31 < (↑p.t29.length : Int) then
      match m63 p.t29[p.t31.toNat]!.fData with
      | none =>
        none
      | some r2 =>
        if (p.b1.fPending ++ [Write.mk p.t29[p.t31.toNat]!.fAt r2]).length ≤ 1073741824 then
          some (some (L49_1.mk p.t29 p.t30 (IntKind.i64.wrap (p.t31 + 1)) (Disk.mk [] [] p.b0.fLeft p.b0.fDown) (Disk.mk p.b1.fDurable (p.b1.fPending ++ [Write.mk p.t29[p.t31.toNat]!.fAt r2]) p.b1.fLeft p.b1.fDown)))
        else
          none
    else
      none
  else
    some (none)
theorem q49_1 (p : L49_1) : execA Try.prog (F49) Try.f49.ntmps 300 (loopAt Try.f49 1) .no (Option L49_1) (pt49_1 p) (kOn rd49_1) = n49_1 p := by kernel_rfl
noncomputable def a49_1 : L49_1 → Option L49_1 := advG (n49_1)
structure L49_0 where
  t14 : List (List Int)
  t15 : Int
  t16 : Int
  b0 : Disk
  b1 : Disk
  b2 : Disk
abbrev P49_0 : Type := (Unit × Unit × Unit × (List (List Int)) × Int × Int × Unit) × (Disk × ((Unit × Unit × Int × Bool × Unit)) × ((Unit × Unit × Int × Bool × Unit)) × (List (List Int)) × Unit)
noncomputable def rb49_0 : St → Option P49_0 := stR 4 (slC 1 (asP 0 0) (slC 2 (asP 1 0) (slC 3 (asP 2 0) (slC 14 (asL 24) (slC 15 (asI .i64) (slC 16 (asI .i64) slN)))))) (rsN2 0 63 (asCs 63) (rsN2 1 63 (pkC asNs (pkC asNs (pkC (asI .i64) (pkC asB pkN)))) (rsN2 2 63 (pkC (asO 3) (pkC asNs (pkC (asI .i64) (pkC asB pkN)))) (rsR 3 24 rsN))))
noncomputable def pb49_0 : P49_0 → St := stP 4 (fun z => [(1, .ptr 0 0), (2, .ptr 1 0), (3, .ptr 2 0), (14, .sl 24 z.2.2.2.1), (15, .n .i64 z.2.2.2.2.1), (16, .n .i64 z.2.2.2.2.2.1)]) (fun z => [(0, .box 63 (uni.cells 63 z.1)), (1, .box 63 [.lit (.slice none 0 0), .lit (.slice none 0 0), .n .i64 z.2.1.2.2.1, .b z.2.1.2.2.2.1]), (2, .box 63 [.own 3, .lit (.slice none 0 0), .n .i64 z.2.2.1.2.2.1, .b z.2.2.1.2.2.2.1]), (3, .row 24 z.2.2.2.1)])
noncomputable def mk49_0 (z : P49_0) : L49_0 := ⟨z.1.2.2.2.1, z.1.2.2.2.2.1, z.1.2.2.2.2.2.1, z.2.1, (Disk.mk [] [] z.2.2.1.2.2.1 z.2.2.1.2.2.2.1), (Disk.mk z.2.2.2.2.1 [] z.2.2.2.1.2.2.1 z.2.2.2.1.2.2.2.1)⟩
noncomputable def pt49_0 (x : L49_0) : St := pb49_0 (((), (), (), x.t14, x.t15, x.t16, ()), (x.b0, ((), (), x.b1.fLeft, x.b1.fDown, ()), ((), (), x.b2.fLeft, x.b2.fDown, ()), x.b2.fDurable, ()))
noncomputable def rd49_0 : St → Option L49_0 := rdC 0 [] [1, 2, 3, 14, 15, 16] (rdF (ownC 2 0 [] 24) (rdC 0 [] [1, 2, 3, 14, 15, 16] (rdM mk49_0 rb49_0)))
theorem rb49_0_ok (n : Nat) : RdOk 0 n rb49_0 pb49_0 := stR_ok (.cons (.p 0 0) (.cons (.p 1 0) (.cons (.p 2 0) (.cons (.l 24) (.cons (.i .i64) (.cons (.i .i64) .nil)))))) (.boxN (PkN.parse 63) (.boxN (.cons .ns (.cons .ns (.cons (.i .i64) (.cons .b .nil)))) (.boxN (.cons (.o 3) (.cons .ns (.cons (.i .i64) (.cons .b .nil)))) (.row .nil))))
theorem rd49_0_ok (n : Nat) : RdOk 0 n rd49_0 pt49_0 := rdC_ok (rdF_ok (.c 2 0 [] 24) (rdC_ok ((rb49_0_ok n).m mk49_0 (pat' := pt49_0) fun _ => rfl)))
noncomputable def n49_0 (p : L49_0) : Option (Option L49_0) :=
  bif decide (p.t16 < p.t15) then
    if (0 : Int) ≤ p.t16 ∧ p.t16 < (↑p.t14.length : Int) then
      match m63 p.t14[p.t16.toNat]! with
      | none =>
        none
      | some r1 =>
        if (p.b2.fDurable ++ [r1]).length ≤ 1073741824 then
          some (some (L49_0.mk p.t14 p.t15 (IntKind.i64.wrap (p.t16 + 1)) p.b0 (Disk.mk [] [] p.b1.fLeft p.b1.fDown) (Disk.mk (p.b2.fDurable ++ [r1]) [] p.b2.fLeft p.b2.fDown)))
        else
          none
    else
      none
  else
    some (none)
theorem q49_0 (p : L49_0) : execA Try.prog (F49) Try.f49.ntmps 300 (loopAt Try.f49 0) .no (Option L49_0) (pt49_0 p) (kOn rd49_0) = n49_0 p := by kernel_rfl
noncomputable def a49_0 : L49_0 → Option L49_0 := advG (n49_0)
abbrev E49 : Type := Disk
abbrev P49_e : Type := (Unit × Unit) × (Disk × Unit)
noncomputable def rb49_e : St → Option P49_e := stR 1 (slC 2 (asP 0 0) slN) (rsN2 0 63 (asCs 63) rsN)
noncomputable def pb49_e : P49_e → St := stP 1 (fun z => [(2, .ptr 0 0)]) (fun z => [(0, .box 63 (uni.cells 63 z.1))])
noncomputable def mk49_e (z : P49_e) : E49 := z.2.1
noncomputable def pt49_e (x : E49) : St := pb49_e (((), ()), (x, ()))
noncomputable def rd49_e : St → Option E49 := rdC 0 [] [2] (rdF (frzC 0 0 []) (rdF (frzC 0 1 []) (rdC 0 [] [2] (rdM mk49_e rb49_e))))
theorem rb49_e_ok (n : Nat) : RdOk 0 n rb49_e pb49_e := stR_ok (.cons (.p 0 0) .nil) (.boxN (PkN.parse 63) .nil)
theorem rd49_e_ok (n : Nat) : RdOk 0 n rd49_e pt49_e := rdC_ok (rdF_ok (.fc 0 0 []) (rdF_ok (.fc 0 1 []) (rdC_ok ((rb49_e_ok n).m mk49_e (pat' := pt49_e) fun _ => rfl))))
noncomputable def an49 : An := (.two .no (.two .no (.two (.two .no (.lp L49_0 rd49_0 pt49_0 a49_0 .no)) (.two (.two .no (.lp L49_1 rd49_1 pt49_1 a49_1 .no)) .no))))
theorem fa49 : FnAn Try.prog (F49) 0 300 49 (an49) := fnAn_of (l := [(loopAt Try.f49 0, (.lp L49_0 rd49_0 pt49_0 a49_0 .no)), (loopAt Try.f49 1, (.lp L49_1 rd49_1 pt49_1 a49_1 .no))]) Try.func49 (bodyOf_eq (by kernel_rfl)) (by kernel_rfl) fun p hp => by
  simp only [List.mem_cons, List.not_mem_nil, or_false] at hp
  rcases hp with rfl | rfl
  · exact ⟨rd49_0_ok _, advG_ok (q49_0)⟩
  · exact ⟨rd49_1_ok _, advG_ok (q49_1)⟩
noncomputable def m49 (a0 : Disk) : Option E49 :=
  match a49_0 (L49_0.mk a0.fDurable (↑a0.fDurable.length : Int) (0) a0 (Disk.mk [] [] (0) false) (Disk.mk [] [] a0.fLeft a0.fDown)) with
  | none =>
    none
  | some r3 =>
    bif decide (r3.t16 < r3.t15) then
      if (0 : Int) ≤ r3.t16 ∧ r3.t16 < (↑r3.t14.length : Int) then
        match m63 r3.t14[r3.t16.toNat]! with
        | none =>
          none
        | some r4 =>
          if (r3.b2.fDurable ++ [r4]).length ≤ 1073741824 then
            none
          else
            none
      else
        none
    else
      match a49_1 (L49_1.mk r3.b0.fPending (↑r3.b0.fPending.length : Int) (0) (Disk.mk [] [] r3.b1.fLeft r3.b1.fDown) (Disk.mk r3.b2.fDurable [] r3.b2.fLeft r3.b2.fDown)) with
      | none =>
        none
      | some r5 =>
        bif decide (r5.t31 < r5.t30) then
          if (0 : Int) ≤ r5.t31 ∧ r5.t31 < (↑r5.t29.length : Int) then
            match m63 r5.t29[r5.t31.toNat]!.fData with
            | none =>
              none
            | some r6 =>
              if (r5.b1.fPending ++ [Write.mk r5.t29[r5.t31.toNat]!.fAt r6]).length ≤ 1073741824 then
                none
              else
                none
          else
            none
        else
          some (r5.b1)
theorem c49 (a0 : Disk) : callR Try.prog (F49) 300 (an49) 49 [.agg (uni.cells 63 a0)] [] 0 rd49_e = m49 a0 := by kernel_rfl
noncomputable def o49 (x : E49) : Out := match (match outOf Try.prog 49 (pt49_e x) with
    | some ds => some (Out.mk (resA ds) (keepR (pt49_e x).R 0 (resA ds)) (pt49_e x).nx)
    | none => none) with
  | some o => o
  | none => ⟨.tup [], [], 0⟩
theorem fn49 (a0 : Disk) (r : E49) (h : m49 a0 = some r) : fnOk Try.prog 49 ∧ FnY Try.prog 49 [.agg (uni.cells 63 a0)] [] 0 (o49 r) :=
  fnY_of (p := r) F49_ok (fa49) rd49_e_ok (fun p => by kernel_rfl) (ltd_of (by kernel_rfl)) (rltd_of (by kernel_rfl)) ((c49 a0).trans h)
theorem fnok49 : fnOk Try.prog 49 := ⟨_, Try.func49, by kernel_rfl, by kernel_rfl⟩
noncomputable def e49 (F : Orc) : Orc := orY 49 0 (qy0 (pkC (asGc 63) pkN)) (fun g => m49 g.1 : (Disk × Unit) → Option E49) o49 F
theorem e49_ok {F : Orc} (h : OrcG Try.prog F) : OrcG Try.prog (e49 F) := orY_g h fnok49 (qy0_ok (ca := fun g => [.agg (uni.cells 63 g.1)]) ((.cons (.g 63) .nil) : PkN (pkC (asGc 63) pkN) _)) (fun b => by kernel_rfl) (fun g b hb => (fn49 g.1 b hb).2)
theorem e49_skip {F : Orc} {f : Nat} (hne : Nat.beq f 49 = false) (h : PureF F f) : PureF (e49 F) f := orY_skip hne h
/-! ### 51: keyhole/keyholelaw50.copied -/
noncomputable def F51 : Orc := (e60 or0)
theorem F51_ok : OrcG Try.prog F51 := (e60_ok or0_g)
structure L51_1 where
  t29 : List Write
  t30 : Int
  t31 : Int
  b0 : Disk
  b1 : Disk
abbrev P51_1 : Type := (Unit × Unit × (List Write) × Int × Int × Unit) × (((Unit × Unit × Int × Bool × Unit)) × ((Unit × Unit × Int × Bool × Unit)) × (List (List Int)) × (List Write) × Unit)
noncomputable def rb51_1 : St → Option P51_1 := stR 4 (slC 2 (asP 0 0) (slC 3 (asP 1 0) (slC 29 (asL 90) (slC 30 (asI .i64) (slC 31 (asI .i64) slN))))) (rsN2 0 63 (pkC asNs (pkC asNs (pkC (asI .i64) (pkC asB pkN)))) (rsN2 1 63 (pkC (asO 2) (pkC (asO 3) (pkC (asI .i64) (pkC asB pkN)))) (rsR 2 24 (rsR 3 90 rsN))))
noncomputable def pb51_1 : P51_1 → St := stP 4 (fun z => [(2, .ptr 0 0), (3, .ptr 1 0), (29, .sl 90 z.2.2.1), (30, .n .i64 z.2.2.2.1), (31, .n .i64 z.2.2.2.2.1)]) (fun z => [(0, .box 63 [.lit (.slice none 0 0), .lit (.slice none 0 0), .n .i64 z.1.2.2.1, .b z.1.2.2.2.1]), (1, .box 63 [.own 2, .own 3, .n .i64 z.2.1.2.2.1, .b z.2.1.2.2.2.1]), (2, .row 24 z.2.2.1), (3, .row 90 z.2.2.2.1)])
noncomputable def mk51_1 (z : P51_1) : L51_1 := ⟨z.1.2.2.1, z.1.2.2.2.1, z.1.2.2.2.2.1, (Disk.mk [] [] z.2.1.2.2.1 z.2.1.2.2.2.1), (Disk.mk z.2.2.2.1 z.2.2.2.2.1 z.2.2.1.2.2.1 z.2.2.1.2.2.2.1)⟩
noncomputable def pt51_1 (x : L51_1) : St := pb51_1 (((), (), x.t29, x.t30, x.t31, ()), (((), (), x.b0.fLeft, x.b0.fDown, ()), ((), (), x.b1.fLeft, x.b1.fDown, ()), x.b1.fDurable, x.b1.fPending, ()))
noncomputable def rd51_1 : St → Option L51_1 := rdC 0 [] [2, 3, 29, 30, 31] (rdF (ownC 1 1 [] 90) (rdC 0 [] [2, 3, 29, 30, 31] (rdM mk51_1 rb51_1)))
theorem rb51_1_ok (n : Nat) : RdOk 0 n rb51_1 pb51_1 := stR_ok (.cons (.p 0 0) (.cons (.p 1 0) (.cons (.l 90) (.cons (.i .i64) (.cons (.i .i64) .nil))))) (.boxN (.cons .ns (.cons .ns (.cons (.i .i64) (.cons .b .nil)))) (.boxN (.cons (.o 2) (.cons (.o 3) (.cons (.i .i64) (.cons .b .nil)))) (.row (.row .nil))))
theorem rd51_1_ok (n : Nat) : RdOk 0 n rd51_1 pt51_1 := rdC_ok (rdF_ok (.c 1 1 [] 90) (rdC_ok ((rb51_1_ok n).m mk51_1 (pat' := pt51_1) fun _ => rfl)))
noncomputable def n51_1 (p : L51_1) : Option (Option L51_1) :=
  bif decide (p.t31 < p.t30) then
    if (0 : Int) ≤ p.t31 ∧ p.t31 < (↑p.t29.length : Int) then
      match m60 p.t29[p.t31.toNat]!.fData with
      | none =>
        none
      | some r2 =>
        if (p.b1.fPending ++ [Write.mk p.t29[p.t31.toNat]!.fAt r2]).length ≤ 1073741824 then
          some (some (L51_1.mk p.t29 p.t30 (IntKind.i64.wrap (p.t31 + 1)) (Disk.mk [] [] p.b0.fLeft p.b0.fDown) (Disk.mk p.b1.fDurable (p.b1.fPending ++ [Write.mk p.t29[p.t31.toNat]!.fAt r2]) p.b1.fLeft p.b1.fDown)))
        else
          none
    else
      none
  else
    some (none)
theorem q51_1 (p : L51_1) : execA Try.prog (F51) Try.f51.ntmps 300 (loopAt Try.f51 1) .no (Option L51_1) (pt51_1 p) (kOn rd51_1) = n51_1 p := by kernel_rfl
noncomputable def a51_1 : L51_1 → Option L51_1 := advG (n51_1)
structure L51_0 where
  t14 : List (List Int)
  t15 : Int
  t16 : Int
  b0 : Disk
  b1 : Disk
  b2 : Disk
abbrev P51_0 : Type := (Unit × Unit × Unit × (List (List Int)) × Int × Int × Unit) × (Disk × ((Unit × Unit × Int × Bool × Unit)) × ((Unit × Unit × Int × Bool × Unit)) × (List (List Int)) × Unit)
noncomputable def rb51_0 : St → Option P51_0 := stR 4 (slC 1 (asP 0 0) (slC 2 (asP 1 0) (slC 3 (asP 2 0) (slC 14 (asL 24) (slC 15 (asI .i64) (slC 16 (asI .i64) slN)))))) (rsN2 0 63 (asCs 63) (rsN2 1 63 (pkC asNs (pkC asNs (pkC (asI .i64) (pkC asB pkN)))) (rsN2 2 63 (pkC (asO 3) (pkC asNs (pkC (asI .i64) (pkC asB pkN)))) (rsR 3 24 rsN))))
noncomputable def pb51_0 : P51_0 → St := stP 4 (fun z => [(1, .ptr 0 0), (2, .ptr 1 0), (3, .ptr 2 0), (14, .sl 24 z.2.2.2.1), (15, .n .i64 z.2.2.2.2.1), (16, .n .i64 z.2.2.2.2.2.1)]) (fun z => [(0, .box 63 (uni.cells 63 z.1)), (1, .box 63 [.lit (.slice none 0 0), .lit (.slice none 0 0), .n .i64 z.2.1.2.2.1, .b z.2.1.2.2.2.1]), (2, .box 63 [.own 3, .lit (.slice none 0 0), .n .i64 z.2.2.1.2.2.1, .b z.2.2.1.2.2.2.1]), (3, .row 24 z.2.2.2.1)])
noncomputable def mk51_0 (z : P51_0) : L51_0 := ⟨z.1.2.2.2.1, z.1.2.2.2.2.1, z.1.2.2.2.2.2.1, z.2.1, (Disk.mk [] [] z.2.2.1.2.2.1 z.2.2.1.2.2.2.1), (Disk.mk z.2.2.2.2.1 [] z.2.2.2.1.2.2.1 z.2.2.2.1.2.2.2.1)⟩
noncomputable def pt51_0 (x : L51_0) : St := pb51_0 (((), (), (), x.t14, x.t15, x.t16, ()), (x.b0, ((), (), x.b1.fLeft, x.b1.fDown, ()), ((), (), x.b2.fLeft, x.b2.fDown, ()), x.b2.fDurable, ()))
noncomputable def rd51_0 : St → Option L51_0 := rdC 0 [] [1, 2, 3, 14, 15, 16] (rdF (ownC 2 0 [] 24) (rdC 0 [] [1, 2, 3, 14, 15, 16] (rdM mk51_0 rb51_0)))
theorem rb51_0_ok (n : Nat) : RdOk 0 n rb51_0 pb51_0 := stR_ok (.cons (.p 0 0) (.cons (.p 1 0) (.cons (.p 2 0) (.cons (.l 24) (.cons (.i .i64) (.cons (.i .i64) .nil)))))) (.boxN (PkN.parse 63) (.boxN (.cons .ns (.cons .ns (.cons (.i .i64) (.cons .b .nil)))) (.boxN (.cons (.o 3) (.cons .ns (.cons (.i .i64) (.cons .b .nil)))) (.row .nil))))
theorem rd51_0_ok (n : Nat) : RdOk 0 n rd51_0 pt51_0 := rdC_ok (rdF_ok (.c 2 0 [] 24) (rdC_ok ((rb51_0_ok n).m mk51_0 (pat' := pt51_0) fun _ => rfl)))
noncomputable def n51_0 (p : L51_0) : Option (Option L51_0) :=
  bif decide (p.t16 < p.t15) then
    if (0 : Int) ≤ p.t16 ∧ p.t16 < (↑p.t14.length : Int) then
      match m60 p.t14[p.t16.toNat]! with
      | none =>
        none
      | some r1 =>
        if (p.b2.fDurable ++ [r1]).length ≤ 1073741824 then
          some (some (L51_0.mk p.t14 p.t15 (IntKind.i64.wrap (p.t16 + 1)) p.b0 (Disk.mk [] [] p.b1.fLeft p.b1.fDown) (Disk.mk (p.b2.fDurable ++ [r1]) [] p.b2.fLeft p.b2.fDown)))
        else
          none
    else
      none
  else
    some (none)
theorem q51_0 (p : L51_0) : execA Try.prog (F51) Try.f51.ntmps 300 (loopAt Try.f51 0) .no (Option L51_0) (pt51_0 p) (kOn rd51_0) = n51_0 p := by kernel_rfl
noncomputable def a51_0 : L51_0 → Option L51_0 := advG (n51_0)
abbrev E51 : Type := Disk
abbrev P51_e : Type := (Unit × Unit) × (((Unit × Unit × Int × Bool × Unit)) × (List (List Int)) × (List Write) × Unit)
noncomputable def rb51_e : St → Option P51_e := stR 3 (slC 2 (asP 0 0) slN) (rsN2 0 63 (pkC (asO 1) (pkC (asO 2) (pkC (asI .i64) (pkC asB pkN)))) (rsR 1 24 (rsR 2 90 rsN)))
noncomputable def pb51_e : P51_e → St := stP 3 (fun z => [(2, .ptr 0 0)]) (fun z => [(0, .box 63 [.own 1, .own 2, .n .i64 z.1.2.2.1, .b z.1.2.2.2.1]), (1, .row 24 z.2.1), (2, .row 90 z.2.2.1)])
noncomputable def mk51_e (z : P51_e) : E51 := (Disk.mk z.2.2.1 z.2.2.2.1 z.2.1.2.2.1 z.2.1.2.2.2.1)
noncomputable def pt51_e (x : E51) : St := pb51_e (((), ()), (((), (), x.fLeft, x.fDown, ()), x.fDurable, x.fPending, ()))
noncomputable def rd51_e : St → Option E51 := rdC 0 [] [2] (rdM mk51_e rb51_e)
theorem rb51_e_ok (n : Nat) : RdOk 0 n rb51_e pb51_e := stR_ok (.cons (.p 0 0) .nil) (.boxN (.cons (.o 1) (.cons (.o 2) (.cons (.i .i64) (.cons .b .nil)))) (.row (.row .nil)))
theorem rd51_e_ok (n : Nat) : RdOk 0 n rd51_e pt51_e := rdC_ok ((rb51_e_ok n).m mk51_e (pat' := pt51_e) fun _ => rfl)
noncomputable def an51 : An := (.two .no (.two .no (.two (.two .no (.lp L51_0 rd51_0 pt51_0 a51_0 .no)) (.two (.two .no (.lp L51_1 rd51_1 pt51_1 a51_1 .no)) .no))))
theorem fa51 : FnAn Try.prog (F51) 0 300 51 (an51) := fnAn_of (l := [(loopAt Try.f51 0, (.lp L51_0 rd51_0 pt51_0 a51_0 .no)), (loopAt Try.f51 1, (.lp L51_1 rd51_1 pt51_1 a51_1 .no))]) Try.func51 (bodyOf_eq (by kernel_rfl)) (by kernel_rfl) fun p hp => by
  simp only [List.mem_cons, List.not_mem_nil, or_false] at hp
  rcases hp with rfl | rfl
  · exact ⟨rd51_0_ok _, advG_ok (q51_0)⟩
  · exact ⟨rd51_1_ok _, advG_ok (q51_1)⟩
noncomputable def m51 (a0 : Disk) : Option E51 :=
  match a51_0 (L51_0.mk a0.fDurable (↑a0.fDurable.length : Int) (0) a0 (Disk.mk [] [] (0) false) (Disk.mk [] [] a0.fLeft a0.fDown)) with
  | none =>
    none
  | some r3 =>
    bif decide (r3.t16 < r3.t15) then
      if (0 : Int) ≤ r3.t16 ∧ r3.t16 < (↑r3.t14.length : Int) then
        match m60 r3.t14[r3.t16.toNat]! with
        | none =>
          none
        | some r4 =>
          if (r3.b2.fDurable ++ [r4]).length ≤ 1073741824 then
            none
          else
            none
      else
        none
    else
      match a51_1 (L51_1.mk r3.b0.fPending (↑r3.b0.fPending.length : Int) (0) (Disk.mk [] [] r3.b1.fLeft r3.b1.fDown) (Disk.mk r3.b2.fDurable [] r3.b2.fLeft r3.b2.fDown)) with
      | none =>
        none
      | some r5 =>
        bif decide (r5.t31 < r5.t30) then
          if (0 : Int) ≤ r5.t31 ∧ r5.t31 < (↑r5.t29.length : Int) then
            match m60 r5.t29[r5.t31.toNat]!.fData with
            | none =>
              none
            | some r6 =>
              if (r5.b1.fPending ++ [Write.mk r5.t29[r5.t31.toNat]!.fAt r6]).length ≤ 1073741824 then
                none
              else
                none
          else
            none
        else
          some (r5.b1)
theorem c51 (a0 : Disk) : callR Try.prog (F51) 300 (an51) 51 [.agg (uni.cells 63 a0)] [] 0 rd51_e = m51 a0 := by kernel_rfl
noncomputable def o51 (x : E51) : Out := match (match outOf Try.prog 51 (pt51_e x) with
    | some ds => some (Out.mk (resA ds) (keepR (pt51_e x).R 0 (resA ds)) (pt51_e x).nx)
    | none => none) with
  | some o => o
  | none => ⟨.tup [], [], 0⟩
theorem fn51 (a0 : Disk) (r : E51) (h : m51 a0 = some r) : fnOk Try.prog 51 ∧ FnY Try.prog 51 [.agg (uni.cells 63 a0)] [] 0 (o51 r) :=
  fnY_of (p := r) F51_ok (fa51) rd51_e_ok (fun p => by kernel_rfl) (ltd_of (by kernel_rfl)) (rltd_of (by kernel_rfl)) ((c51 a0).trans h)
theorem fnok51 : fnOk Try.prog 51 := ⟨_, Try.func51, by kernel_rfl, by kernel_rfl⟩
noncomputable def e51 (F : Orc) : Orc := orY 51 0 (qy0 (pkC (asGc 63) pkN)) (fun g => m51 g.1 : (Disk × Unit) → Option E51) o51 F
theorem e51_ok {F : Orc} (h : OrcG Try.prog F) : OrcG Try.prog (e51 F) := orY_g h fnok51 (qy0_ok (ca := fun g => [.agg (uni.cells 63 g.1)]) ((.cons (.g 63) .nil) : PkN (pkC (asGc 63) pkN) _)) (fun b => by kernel_rfl) (fun g b hb => (fn51 g.1 b hb).2)
theorem e51_skip {F : Orc} {f : Nat} (hne : Nat.beq f 51 = false) (h : PureF F f) : PureF (e51 F) f := orY_skip hne h
/-! ### 21: keyhole/keyholelaw50.tame -/
noncomputable def F21 : Orc := (e9 or0)
theorem F21_ok : OrcG Try.prog F21 := (e9_ok or0_g)
structure L21_1 where
  t10 : List GEvent
  t11 : Int
  t12 : Int
  t27 : List Record
  t28 : Int
  t29 : Int
abbrev P21_1 : Type := ((List GEvent) × Int × Int × (List Record) × Int × Int × Unit) × (Unit)
noncomputable def rb21_1 : St → Option P21_1 := stR 0 (slC 10 (asL 57) (slC 11 (asI .i64) (slC 12 (asI .i64) (slC 27 (asL 23) (slC 28 (asI .i64) (slC 29 (asI .i64) slN)))))) rsN
noncomputable def pb21_1 : P21_1 → St := stP 0 (fun z => [(10, .sl 57 z.1), (11, .n .i64 z.2.1), (12, .n .i64 z.2.2.1), (27, .sl 23 z.2.2.2.1), (28, .n .i64 z.2.2.2.2.1), (29, .n .i64 z.2.2.2.2.2.1)]) (fun z => [])
noncomputable def mk21_1 (z : P21_1) : L21_1 := ⟨z.1.1, z.1.2.1, z.1.2.2.1, z.1.2.2.2.1, z.1.2.2.2.2.1, z.1.2.2.2.2.2.1⟩
noncomputable def pt21_1 (x : L21_1) : St := pb21_1 ((x.t10, x.t11, x.t12, x.t27, x.t28, x.t29, ()), (()))
noncomputable def rd21_1 : St → Option L21_1 := rdC 0 [] [10, 11, 12, 27, 28, 29] (rdM mk21_1 rb21_1)
theorem rb21_1_ok (n : Nat) : RdOk 0 n rb21_1 pb21_1 := stR_ok (.cons (.l 57) (.cons (.i .i64) (.cons (.i .i64) (.cons (.l 23) (.cons (.i .i64) (.cons (.i .i64) .nil)))))) .nil
theorem rd21_1_ok (n : Nat) : RdOk 0 n rd21_1 pt21_1 := rdC_ok ((rb21_1_ok n).m mk21_1 (pat' := pt21_1) fun _ => rfl)
noncomputable def n21_1 (p : L21_1) : Option (Option L21_1) :=
  bif decide (p.t29 < p.t28) then
    if (0 : Int) ≤ p.t29 ∧ p.t29 < (↑p.t27.length : Int) then
      match m9 (Record.mk (0) (0) p.t27[p.t29.toNat]!.fSecret p.t27[p.t29.toNat]!.fClient p.t27[p.t29.toNat]!.fNumber p.t27[p.t29.toNat]!.fProgram p.t27[p.t29.toNat]!.fPublic p.t27[p.t29.toNat]!.fAnswer p.t27[p.t29.toNat]!.fCharge) with
      | none =>
        none
      | some r4 =>
        bif bif r4 then false else true then
          some (none)
        else
          some (some (L21_1.mk p.t10 p.t11 p.t12 p.t27 p.t28 (IntKind.i64.wrap (p.t29 + 1))))
    else
      none
  else
    some (none)
theorem q21_1 (p : L21_1) : execA Try.prog (F21) Try.f21.ntmps 300 (loopAt Try.f21 1) .no (Option L21_1) (pt21_1 p) (kOn rd21_1) = n21_1 p := by kernel_rfl
noncomputable def a21_1 : L21_1 → Option L21_1 := advG (n21_1)
structure L21_0 where
  t10 : List GEvent
  t11 : Int
  t12 : Int
abbrev P21_0 : Type := ((List GEvent) × Int × Int × Unit) × (Unit)
noncomputable def rb21_0 : St → Option P21_0 := stR 0 (slC 10 (asL 57) (slC 11 (asI .i64) (slC 12 (asI .i64) slN))) rsN
noncomputable def pb21_0 : P21_0 → St := stP 0 (fun z => [(10, .sl 57 z.1), (11, .n .i64 z.2.1), (12, .n .i64 z.2.2.1)]) (fun z => [])
noncomputable def mk21_0 (z : P21_0) : L21_0 := ⟨z.1.1, z.1.2.1, z.1.2.2.1⟩
noncomputable def pt21_0 (x : L21_0) : St := pb21_0 ((x.t10, x.t11, x.t12, ()), (()))
noncomputable def rd21_0 : St → Option L21_0 := rdC 0 [] [10, 11, 12] (rdM mk21_0 rb21_0)
theorem rb21_0_ok (n : Nat) : RdOk 0 n rb21_0 pb21_0 := stR_ok (.cons (.l 57) (.cons (.i .i64) (.cons (.i .i64) .nil))) .nil
theorem rd21_0_ok (n : Nat) : RdOk 0 n rd21_0 pt21_0 := rdC_ok ((rb21_0_ok n).m mk21_0 (pat' := pt21_0) fun _ => rfl)
noncomputable def n21_0 (p : L21_0) : Option (Option L21_0) :=
  bif decide (p.t12 < p.t11) then
    if (0 : Int) ≤ p.t12 ∧ p.t12 < (↑p.t10.length : Int) then
      match bif decide (5 < (↑p.t10[p.t12.toNat]!.fRecords.length : Int)) then
        some (true)
      else
        some (decide (20 < (↑p.t10[p.t12.toNat]!.fKeep.length : Int))) with
      | none =>
        none
      | some r1 =>
        bif r1 then
          some (none)
        else
          match a21_1 (L21_1.mk p.t10 p.t11 p.t12 p.t10[p.t12.toNat]!.fRecords (↑p.t10[p.t12.toNat]!.fRecords.length : Int) (0)) with
          | none =>
            none
          | some r2 =>
            bif decide (r2.t29 < r2.t28) then
              if (0 : Int) ≤ r2.t29 ∧ r2.t29 < (↑r2.t27.length : Int) then
                match m9 (Record.mk (0) (0) r2.t27[r2.t29.toNat]!.fSecret r2.t27[r2.t29.toNat]!.fClient r2.t27[r2.t29.toNat]!.fNumber r2.t27[r2.t29.toNat]!.fProgram r2.t27[r2.t29.toNat]!.fPublic r2.t27[r2.t29.toNat]!.fAnswer r2.t27[r2.t29.toNat]!.fCharge) with
                | none =>
                  none
                | some r3 =>
                  bif bif r3 then false else true then
                    some (none)
                  else
                    none
              else
                none
            else
              some (some (L21_0.mk r2.t10 r2.t11 (IntKind.i64.wrap (r2.t12 + 1))))
    else
      none
  else
    some (none)
theorem q21_0 (p : L21_0) : execA Try.prog (F21) Try.f21.ntmps 300 (loopAt Try.f21 0) (.two .no (.two .no (.two (.two .no (.two (.two (.rb [] 25) .no) (.two .no (.lp L21_1 rd21_1 pt21_1 a21_1 .no)))) .no))) (Option L21_0) (pt21_0 p) (kOn rd21_0) = n21_0 p := by kernel_rfl
noncomputable def a21_0 : L21_0 → Option L21_0 := advG (n21_0)
abbrev E21 : Type := Bool
abbrev P21_e : Type := (Bool × Unit) × (Unit)
noncomputable def rb21_e : St → Option P21_e := stR 0 (slC 2 asB slN) rsN
noncomputable def pb21_e : P21_e → St := stP 0 (fun z => [(2, .b z.1)]) (fun z => [])
noncomputable def mk21_e (z : P21_e) : E21 := z.1.1
noncomputable def pt21_e (x : E21) : St := pb21_e ((x, ()), (()))
noncomputable def rd21_e : St → Option E21 := rdC 0 [] [2] (rdM mk21_e rb21_e)
theorem rb21_e_ok (n : Nat) : RdOk 0 n rb21_e pb21_e := stR_ok (.cons .b .nil) .nil
theorem rd21_e_ok (n : Nat) : RdOk 0 n rd21_e pt21_e := rdC_ok ((rb21_e_ok n).m mk21_e (pat' := pt21_e) fun _ => rfl)
noncomputable def an21 : An := (.two .no (.two .no (.two (.two .no (.lp L21_0 rd21_0 pt21_0 a21_0 (.two .no (.two .no (.two (.two .no (.two (.two (.rb [] 25) .no) (.two .no (.lp L21_1 rd21_1 pt21_1 a21_1 .no)))) .no))))) .no)))
theorem pu21  : ∀ f ∈ ([] : List Nat), PureF (F21) f := fun f hf => by
  cases hf
theorem fa21 : FnAn Try.prog (F21) 0 300 21 (an21) := fnAn_of (l := [(loopAt Try.f21 0, (.lp L21_0 rd21_0 pt21_0 a21_0 (.two .no (.two .no (.two (.two .no (.two (.two (.rb [] 25) .no) (.two .no (.lp L21_1 rd21_1 pt21_1 a21_1 .no)))) .no))))), (.skip, (.rb [] 25)), (loopAt Try.f21 1, (.lp L21_1 rd21_1 pt21_1 a21_1 .no))]) Try.func21 (bodyOf_eq (by kernel_rfl)) (by kernel_rfl) fun p hp => by
  simp only [List.mem_cons, List.not_mem_nil, or_false] at hp
  rcases hp with rfl | rfl | rfl
  · exact ⟨rd21_0_ok _, advG_ok (q21_0)⟩
  · exact pu21
  · exact ⟨rd21_1_ok _, advG_ok (q21_1)⟩
noncomputable def m21 (a0 : List GEvent) : Option E21 :=
  bif decide (12 < (↑a0.length : Int)) then
    some (false)
  else
    match a21_0 (L21_0.mk a0 (↑a0.length : Int) (0)) with
    | none =>
      none
    | some r5 =>
      bif decide (r5.t12 < r5.t11) then
        if (0 : Int) ≤ r5.t12 ∧ r5.t12 < (↑r5.t10.length : Int) then
          match bif decide (5 < (↑r5.t10[r5.t12.toNat]!.fRecords.length : Int)) then
            some (true)
          else
            some (decide (20 < (↑r5.t10[r5.t12.toNat]!.fKeep.length : Int))) with
          | none =>
            none
          | some r6 =>
            bif r6 then
              some (false)
            else
              match a21_1 (L21_1.mk r5.t10 r5.t11 r5.t12 r5.t10[r5.t12.toNat]!.fRecords (↑r5.t10[r5.t12.toNat]!.fRecords.length : Int) (0)) with
              | none =>
                none
              | some r7 =>
                bif decide (r7.t29 < r7.t28) then
                  if (0 : Int) ≤ r7.t29 ∧ r7.t29 < (↑r7.t27.length : Int) then
                    match m9 (Record.mk (0) (0) r7.t27[r7.t29.toNat]!.fSecret r7.t27[r7.t29.toNat]!.fClient r7.t27[r7.t29.toNat]!.fNumber r7.t27[r7.t29.toNat]!.fProgram r7.t27[r7.t29.toNat]!.fPublic r7.t27[r7.t29.toNat]!.fAnswer r7.t27[r7.t29.toNat]!.fCharge) with
                    | none =>
                      none
                    | some r8 =>
                      bif bif r8 then false else true then
                        some (false)
                      else
                        none
                  else
                    none
                else
                  none
        else
          none
      else
        some (true)
theorem c21 (a0 : List GEvent) : callR Try.prog (F21) 300 (an21) 21 [.sl 57 a0] [] 0 rd21_e = m21 a0 := by kernel_rfl
noncomputable def o21 (x : E21) : Out := match (match outOf Try.prog 21 (pt21_e x) with
    | some ds => some (Out.mk (resA ds) (keepR (pt21_e x).R 0 (resA ds)) (pt21_e x).nx)
    | none => none) with
  | some o => o
  | none => ⟨.tup [], [], 0⟩
theorem fn21 (a0 : List GEvent) (r : E21) (h : m21 a0 = some r) : fnOk Try.prog 21 ∧ FnY Try.prog 21 [.sl 57 a0] [] 0 (o21 r) :=
  fnY_of (p := r) F21_ok (fa21) rd21_e_ok (fun p => by kernel_rfl) (ltd_of (by kernel_rfl)) (rltd_of (by kernel_rfl)) ((c21 a0).trans h)
theorem fnok21 : fnOk Try.prog 21 := ⟨_, Try.func21, by kernel_rfl, by kernel_rfl⟩
noncomputable def e21 (F : Orc) : Orc := orL 21 false (pkC (asL 57) pkN) (fun g => m21 g.1 : ((List GEvent) × Unit) → Option E21) o21 F
theorem e21_ok {F : Orc} (h : OrcG Try.prog F) : OrcG Try.prog (e21 F) := orL_g (sc := scU) h scU_ok fnok21 (ca := fun g => [.sl 57 g.1]) ((.cons (.l 57) .nil) : PkN (pkC (asL 57) pkN) _) (fun b => by kernel_rfl) (fun b => by kernel_rfl) (fun g b hb => (fn21 g.1 b hb).2)
theorem e21_pure {F : Orc} {f : Nat} (h : PureF F f) : PureF (e21 F) f := orL_pure h (fun b => by kernel_rfl)
/-! ### 23: keyhole/keyholelaw50.like -/
noncomputable def F23 : Orc := or0
theorem F23_ok : OrcG Try.prog F23 := or0_g
abbrev E23 : Type := Bool
abbrev P23_e : Type := (Bool × Unit) × (Unit)
noncomputable def rb23_e : St → Option P23_e := stR 0 (slC 4 asB slN) rsN
noncomputable def pb23_e : P23_e → St := stP 0 (fun z => [(4, .b z.1)]) (fun z => [])
noncomputable def mk23_e (z : P23_e) : E23 := z.1.1
noncomputable def pt23_e (x : E23) : St := pb23_e ((x, ()), (()))
noncomputable def rd23_e : St → Option E23 := rdC 0 [] [4] (rdM mk23_e rb23_e)
theorem rb23_e_ok (n : Nat) : RdOk 0 n rb23_e pb23_e := stR_ok (.cons .b .nil) .nil
theorem rd23_e_ok (n : Nat) : RdOk 0 n rd23_e pt23_e := rdC_ok ((rb23_e_ok n).m mk23_e (pat' := pt23_e) fun _ => rfl)
noncomputable def an23 : An := .no
theorem fa23 : FnAn Try.prog (F23) 0 300 23 (an23) := fnAn_of (l := []) Try.func23 (bodyOf_eq (by kernel_rfl)) (by kernel_rfl) fun p hp => by
  cases hp
noncomputable def m23 (a0 : Record) (a1 : Record) : E23 :=
  bif decide (a0.fSecret = a1.fSecret) then bif decide (a0.fClient = a1.fClient) then bif decide (a0.fNumber = a1.fNumber) then bif decide (a0.fProgram = a1.fProgram) then bif decide (a0.fPublic = a1.fPublic) then bif decide (a0.fAnswer = a1.fAnswer) then bif decide (a0.fCharge = a1.fCharge) then true else false else false else false else false else false else false else false
theorem c23 (a0 : Record) (a1 : Record) : callR Try.prog (F23) 300 (an23) 23 [.agg (uni.cells 23 a0), .agg (uni.cells 23 a1)] [] 0 rd23_e = some (m23 a0 a1) := by
  refine Eq.trans (b := (
    some (bif decide (a0.fSecret = a1.fSecret) then bif decide (a0.fClient = a1.fClient) then bif decide (a0.fNumber = a1.fNumber) then bif decide (a0.fProgram = a1.fProgram) then bif decide (a0.fPublic = a1.fPublic) then bif decide (a0.fAnswer = a1.fAnswer) then bif decide (a0.fCharge = a1.fCharge) then true else false else false else false else false else false else false else false) : Option E23)) (by kernel_rfl) ?_
  simp only [m23, cond_some, ite_some]
noncomputable def o23 (x : E23) : Out := match (match outOf Try.prog 23 (pt23_e x) with
    | some ds => some (Out.mk (resA ds) (keepR (pt23_e x).R 0 (resA ds)) (pt23_e x).nx)
    | none => none) with
  | some o => o
  | none => ⟨.tup [], [], 0⟩
theorem fn23 (a0 : Record) (a1 : Record) (r : E23) (h : m23 a0 a1 = r) : fnOk Try.prog 23 ∧ FnY Try.prog 23 [.agg (uni.cells 23 a0), .agg (uni.cells 23 a1)] [] 0 (o23 r) :=
  fnY_of (p := r) F23_ok (fa23) rd23_e_ok (fun p => by kernel_rfl) (ltd_of (by kernel_rfl)) (rltd_of (by kernel_rfl)) ((c23 a0 a1).trans (congrArg some h))
theorem fnok23 : fnOk Try.prog 23 := ⟨_, Try.func23, by kernel_rfl, by kernel_rfl⟩
noncomputable def e23 (F : Orc) : Orc := orL 23 false (pkC (asGc 23) (pkC (asGc 23) pkN)) (fun g => some (m23 g.1 g.2.1) : (Record × Record × Unit) → Option E23) o23 F
theorem e23_ok {F : Orc} (h : OrcG Try.prog F) : OrcG Try.prog (e23 F) := orL_g (sc := scU) h scU_ok fnok23 (ca := fun g => [.agg (uni.cells 23 g.1), .agg (uni.cells 23 g.2.1)]) ((.cons (.g 23) (.cons (.g 23) .nil)) : PkN (pkC (asGc 23) (pkC (asGc 23) pkN)) _) (fun b => by kernel_rfl) (fun b => by kernel_rfl) (fun g b hb => (fn23 g.1 g.2.1 b (Option.some.inj hb)).2)
theorem e23_pure {F : Orc} {f : Nat} (h : PureF F f) : PureF (e23 F) f := orL_pure h (fun b => by kernel_rfl)
/-! ### 25: keyhole/keyholelaw50.blank -/
noncomputable def F25 : Orc := or0
theorem F25_ok : OrcG Try.prog F25 := or0_g
structure L25_0 where
  t0 : Int
  t4 : Int
  b0 : Disk
  b1 : Disk
abbrev P25_0 : Type := (Int × Unit × Unit × Int × Unit) × (((Unit × Unit × Int × Bool × Unit)) × ((Unit × Unit × Int × Bool × Unit)) × (List (List Int)) × Unit)
noncomputable def rb25_0 : St → Option P25_0 := stR 3 (slC 0 (asI .i64) (slC 2 (asP 0 0) (slC 3 (asP 1 0) (slC 4 (asI .i64) slN)))) (rsN2 0 63 (pkC asNs (pkC asNs (pkC (asI .i64) (pkC asB pkN)))) (rsN2 1 63 (pkC (asO 2) (pkC asNs (pkC (asI .i64) (pkC asB pkN)))) (rsR 2 24 rsN)))
noncomputable def pb25_0 : P25_0 → St := stP 3 (fun z => [(0, .n .i64 z.1), (2, .ptr 0 0), (3, .ptr 1 0), (4, .n .i64 z.2.2.2.1)]) (fun z => [(0, .box 63 [.lit (.slice none 0 0), .lit (.slice none 0 0), .n .i64 z.1.2.2.1, .b z.1.2.2.2.1]), (1, .box 63 [.own 2, .lit (.slice none 0 0), .n .i64 z.2.1.2.2.1, .b z.2.1.2.2.2.1]), (2, .row 24 z.2.2.1)])
noncomputable def mk25_0 (z : P25_0) : L25_0 := ⟨z.1.1, z.1.2.2.2.1, (Disk.mk [] [] z.2.1.2.2.1 z.2.1.2.2.2.1), (Disk.mk z.2.2.2.1 [] z.2.2.1.2.2.1 z.2.2.1.2.2.2.1)⟩
noncomputable def pt25_0 (x : L25_0) : St := pb25_0 ((x.t0, (), (), x.t4, ()), (((), (), x.b0.fLeft, x.b0.fDown, ()), ((), (), x.b1.fLeft, x.b1.fDown, ()), x.b1.fDurable, ()))
noncomputable def rd25_0 : St → Option L25_0 := rdC 0 [] [0, 2, 3, 4] (rdF (ownC 1 0 [] 24) (rdC 0 [] [0, 2, 3, 4] (rdM mk25_0 rb25_0)))
theorem rb25_0_ok (n : Nat) : RdOk 0 n rb25_0 pb25_0 := stR_ok (.cons (.i .i64) (.cons (.p 0 0) (.cons (.p 1 0) (.cons (.i .i64) .nil)))) (.boxN (.cons .ns (.cons .ns (.cons (.i .i64) (.cons .b .nil)))) (.boxN (.cons (.o 2) (.cons .ns (.cons (.i .i64) (.cons .b .nil)))) (.row .nil)))
theorem rd25_0_ok (n : Nat) : RdOk 0 n rd25_0 pt25_0 := rdC_ok (rdF_ok (.c 1 0 [] 24) (rdC_ok ((rb25_0_ok n).m mk25_0 (pat' := pt25_0) fun _ => rfl)))
noncomputable def n25_0 (p : L25_0) : Option (Option L25_0) :=
  bif decide (p.t4 < p.t0) then
    if (p.b1.fDurable ++ [List.replicate 96 ((0 : Int))]).length ≤ 1073741824 then
      some (some (L25_0.mk p.t0 (IntKind.i64.wrap (p.t4 + 1)) (Disk.mk [] [] p.b0.fLeft p.b0.fDown) (Disk.mk (p.b1.fDurable ++ [List.replicate 96 (0)]) [] p.b1.fLeft p.b1.fDown)))
    else
      none
  else
    some (none)
theorem q25_0 (p : L25_0) : execA Try.prog (F25) Try.f25.ntmps 300 (loopAt Try.f25 0) .no (Option L25_0) (pt25_0 p) (kOn rd25_0) = n25_0 p := by kernel_rfl
noncomputable def a25_0 : L25_0 → Option L25_0 := advG (n25_0)
abbrev E25 : Type := Disk
abbrev P25_e : Type := (Unit × Unit) × (Disk × Unit)
noncomputable def rb25_e : St → Option P25_e := stR 1 (slC 2 (asP 0 0) slN) (rsN2 0 63 (asCs 63) rsN)
noncomputable def pb25_e : P25_e → St := stP 1 (fun z => [(2, .ptr 0 0)]) (fun z => [(0, .box 63 (uni.cells 63 z.1))])
noncomputable def mk25_e (z : P25_e) : E25 := z.2.1
noncomputable def pt25_e (x : E25) : St := pb25_e (((), ()), (x, ()))
noncomputable def rd25_e : St → Option E25 := rdC 0 [] [2] (rdF (frzC 0 0 []) (rdC 0 [] [2] (rdM mk25_e rb25_e)))
theorem rb25_e_ok (n : Nat) : RdOk 0 n rb25_e pb25_e := stR_ok (.cons (.p 0 0) .nil) (.boxN (PkN.parse 63) .nil)
theorem rd25_e_ok (n : Nat) : RdOk 0 n rd25_e pt25_e := rdC_ok (rdF_ok (.fc 0 0 []) (rdC_ok ((rb25_e_ok n).m mk25_e (pat' := pt25_e) fun _ => rfl)))
noncomputable def an25 : An := (.two .no (.two .no (.two (.two .no (.lp L25_0 rd25_0 pt25_0 a25_0 .no)) .no)))
theorem fa25 : FnAn Try.prog (F25) 0 300 25 (an25) := fnAn_of (l := [(loopAt Try.f25 0, (.lp L25_0 rd25_0 pt25_0 a25_0 .no))]) Try.func25 (bodyOf_eq (by kernel_rfl)) (by kernel_rfl) fun p hp => by
  simp only [List.mem_cons, List.not_mem_nil, or_false] at hp
  rcases hp with rfl
  · exact ⟨rd25_0_ok _, advG_ok (q25_0)⟩
noncomputable def m25 (a0 : Int) : Option E25 :=
  match a25_0 (L25_0.mk a0 (0) (Disk.mk [] [] (0) false) (Disk.mk [] [] (-1) false)) with
  | none =>
    none
  | some r1 =>
    bif decide (r1.t4 < r1.t0) then
      if (r1.b1.fDurable ++ [List.replicate 96 ((0 : Int))]).length ≤ 1073741824 then
        none
      else
        none
    else
      some (Disk.mk r1.b1.fDurable [] r1.b1.fLeft r1.b1.fDown)
theorem c25 (a0 : Int) : callR Try.prog (F25) 300 (an25) 25 [.n .i64 a0] [] 0 rd25_e = m25 a0 := by kernel_rfl
noncomputable def o25 (x : E25) : Out := match (match outOf Try.prog 25 (pt25_e x) with
    | some ds => some (Out.mk (resA ds) (keepR (pt25_e x).R 0 (resA ds)) (pt25_e x).nx)
    | none => none) with
  | some o => o
  | none => ⟨.tup [], [], 0⟩
theorem fn25 (a0 : Int) (r : E25) (h : m25 a0 = some r) : fnOk Try.prog 25 ∧ FnY Try.prog 25 [.n .i64 a0] [] 0 (o25 r) :=
  fnY_of (p := r) F25_ok (fa25) rd25_e_ok (fun p => by kernel_rfl) (ltd_of (by kernel_rfl)) (rltd_of (by kernel_rfl)) ((c25 a0).trans h)
theorem fnok25 : fnOk Try.prog 25 := ⟨_, Try.func25, by kernel_rfl, by kernel_rfl⟩
noncomputable def e25 (F : Orc) : Orc := orY 25 0 (qy0 (pkC (asI .i64) pkN)) (fun g => m25 g.1 : (Int × Unit) → Option E25) o25 F
theorem e25_ok {F : Orc} (h : OrcG Try.prog F) : OrcG Try.prog (e25 F) := orY_g h fnok25 (qy0_ok (ca := fun g => [.n .i64 g.1]) ((.cons (.i .i64) .nil) : PkN (pkC (asI .i64) pkN) _)) (fun b => by kernel_rfl) (fun g b hb => (fn25 g.1 b hb).2)
theorem e25_skip {F : Orc} {f : Nat} (hne : Nat.beq f 25 = false) (h : PureF F f) : PureF (e25 F) f := orY_skip hne h
/-! ### 44: keyhole/keyholelaw50.right -/
noncomputable def F44 : Orc := or0
theorem F44_ok : OrcG Try.prog F44 := or0_g
structure L44_1 where
  t35 : List Write
  t36 : Int
  t37 : Int
  b0 : Disk
abbrev P44_1 : Type := (Unit × (List Write) × Int × Int × Unit) × (Disk × Unit)
noncomputable def rb44_1 : St → Option P44_1 := stR 1 (slC 1 (asP 0 0) (slC 35 (asL 90) (slC 36 (asI .i64) (slC 37 (asI .i64) slN)))) (rsN2 0 63 (asCs 63) rsN)
noncomputable def pb44_1 : P44_1 → St := stP 1 (fun z => [(1, .ptr 0 0), (35, .sl 90 z.2.1), (36, .n .i64 z.2.2.1), (37, .n .i64 z.2.2.2.1)]) (fun z => [(0, .box 63 (uni.cells 63 z.1))])
noncomputable def mk44_1 (z : P44_1) : L44_1 := ⟨z.1.2.1, z.1.2.2.1, z.1.2.2.2.1, z.2.1⟩
noncomputable def pt44_1 (x : L44_1) : St := pb44_1 (((), x.t35, x.t36, x.t37, ()), (x.b0, ()))
noncomputable def rd44_1 : St → Option L44_1 := rdC 0 [] [1, 35, 36, 37] (rdM mk44_1 rb44_1)
theorem rb44_1_ok (n : Nat) : RdOk 0 n rb44_1 pb44_1 := stR_ok (.cons (.p 0 0) (.cons (.l 90) (.cons (.i .i64) (.cons (.i .i64) .nil)))) (.boxN (PkN.parse 63) .nil)
theorem rd44_1_ok (n : Nat) : RdOk 0 n rd44_1 pt44_1 := rdC_ok ((rb44_1_ok n).m mk44_1 (pat' := pt44_1) fun _ => rfl)
noncomputable def n44_1 (p : L44_1) : Option (Option L44_1) :=
  bif decide (p.t37 < p.t36) then
    if (0 : Int) ≤ p.t37 ∧ p.t37 < (↑p.t35.length : Int) then
      match bif decide (p.t35[p.t37.toNat]!.fAt < 0) then
        some (true)
      else
        bif decide ((↑p.b0.fDurable.length : Int) ≤ p.t35[p.t37.toNat]!.fAt) then
          some (true)
        else
          some (bif decide ((↑p.t35[p.t37.toNat]!.fData.length : Int) = 96) then false else true) with
      | none =>
        none
      | some r1 =>
        bif r1 then
          some (none)
        else
          some (some (L44_1.mk p.t35 p.t36 (IntKind.i64.wrap (p.t37 + 1)) p.b0))
    else
      none
  else
    some (none)
theorem q44_1 (p : L44_1) : execA Try.prog (F44) Try.f44.ntmps 300 (loopAt Try.f44 1) (.two .no (.two .no (.two (.two .no (.two (.rb [] 57) .no)) .no))) (Option L44_1) (pt44_1 p) (kOn rd44_1) = n44_1 p := by kernel_rfl
noncomputable def a44_1 : L44_1 → Option L44_1 := advG (n44_1)
structure L44_0 where
  t24 : List (List Int)
  t25 : Int
  t26 : Int
  b0 : Disk
abbrev P44_0 : Type := (Unit × (List (List Int)) × Int × Int × Unit) × (Disk × Unit)
noncomputable def rb44_0 : St → Option P44_0 := stR 1 (slC 1 (asP 0 0) (slC 24 (asL 24) (slC 25 (asI .i64) (slC 26 (asI .i64) slN)))) (rsN2 0 63 (asCs 63) rsN)
noncomputable def pb44_0 : P44_0 → St := stP 1 (fun z => [(1, .ptr 0 0), (24, .sl 24 z.2.1), (25, .n .i64 z.2.2.1), (26, .n .i64 z.2.2.2.1)]) (fun z => [(0, .box 63 (uni.cells 63 z.1))])
noncomputable def mk44_0 (z : P44_0) : L44_0 := ⟨z.1.2.1, z.1.2.2.1, z.1.2.2.2.1, z.2.1⟩
noncomputable def pt44_0 (x : L44_0) : St := pb44_0 (((), x.t24, x.t25, x.t26, ()), (x.b0, ()))
noncomputable def rd44_0 : St → Option L44_0 := rdC 0 [] [1, 24, 25, 26] (rdM mk44_0 rb44_0)
theorem rb44_0_ok (n : Nat) : RdOk 0 n rb44_0 pb44_0 := stR_ok (.cons (.p 0 0) (.cons (.l 24) (.cons (.i .i64) (.cons (.i .i64) .nil)))) (.boxN (PkN.parse 63) .nil)
theorem rd44_0_ok (n : Nat) : RdOk 0 n rd44_0 pt44_0 := rdC_ok ((rb44_0_ok n).m mk44_0 (pat' := pt44_0) fun _ => rfl)
noncomputable def n44_0 (p : L44_0) : Option (Option L44_0) :=
  bif decide (p.t26 < p.t25) then
    if (0 : Int) ≤ p.t26 ∧ p.t26 < (↑p.t24.length : Int) then
      bif bif decide ((↑(List.length p.t24[p.t26.toNat]!) : Int) = 96) then false else true then
        some (none)
      else
        some (some (L44_0.mk p.t24 p.t25 (IntKind.i64.wrap (p.t26 + 1)) p.b0))
    else
      none
  else
    some (none)
theorem q44_0 (p : L44_0) : execA Try.prog (F44) Try.f44.ntmps 300 (loopAt Try.f44 0) .no (Option L44_0) (pt44_0 p) (kOn rd44_0) = n44_0 p := by kernel_rfl
noncomputable def a44_0 : L44_0 → Option L44_0 := advG (n44_0)
abbrev E44 : Type := Bool
abbrev P44_e : Type := (Bool × Unit) × (Unit)
noncomputable def rb44_e : St → Option P44_e := stR 0 (slC 2 asB slN) rsN
noncomputable def pb44_e : P44_e → St := stP 0 (fun z => [(2, .b z.1)]) (fun z => [])
noncomputable def mk44_e (z : P44_e) : E44 := z.1.1
noncomputable def pt44_e (x : E44) : St := pb44_e ((x, ()), (()))
noncomputable def rd44_e : St → Option E44 := rdC 0 [] [2] (rdM mk44_e rb44_e)
theorem rb44_e_ok (n : Nat) : RdOk 0 n rb44_e pb44_e := stR_ok (.cons .b .nil) .nil
theorem rd44_e_ok (n : Nat) : RdOk 0 n rd44_e pt44_e := rdC_ok ((rb44_e_ok n).m mk44_e (pat' := pt44_e) fun _ => rfl)
noncomputable def an44 : An := (.two .no (.two (.two (.rb [] 22) .no) (.two (.two .no (.lp L44_0 rd44_0 pt44_0 a44_0 .no)) (.two (.two .no (.lp L44_1 rd44_1 pt44_1 a44_1 (.two .no (.two .no (.two (.two .no (.two (.rb [] 57) .no)) .no))))) .no))))
theorem pu44  : ∀ f ∈ ([] : List Nat), PureF (F44) f := fun f hf => by
  cases hf
theorem fa44 : FnAn Try.prog (F44) 0 300 44 (an44) := fnAn_of (l := [(.skip, (.rb [] 22)), (loopAt Try.f44 0, (.lp L44_0 rd44_0 pt44_0 a44_0 .no)), (loopAt Try.f44 1, (.lp L44_1 rd44_1 pt44_1 a44_1 (.two .no (.two .no (.two (.two .no (.two (.rb [] 57) .no)) .no))))), (.skip, (.rb [] 57))]) Try.func44 (bodyOf_eq (by kernel_rfl)) (by kernel_rfl) fun p hp => by
  simp only [List.mem_cons, List.not_mem_nil, or_false] at hp
  rcases hp with rfl | rfl | rfl | rfl
  · exact pu44
  · exact ⟨rd44_0_ok _, advG_ok (q44_0)⟩
  · exact ⟨rd44_1_ok _, advG_ok (q44_1)⟩
  · exact pu44
noncomputable def m44 (a0 : Disk) : Option E44 :=
  match bif decide ((↑a0.fDurable.length : Int) < 1) then
    some (true)
  else
    bif decide (4096 < (↑a0.fDurable.length : Int)) then
      some (true)
    else
      some (decide (8192 < (↑a0.fPending.length : Int))) with
  | none =>
    none
  | some r2 =>
    bif r2 then
      some (false)
    else
      match a44_0 (L44_0.mk a0.fDurable (↑a0.fDurable.length : Int) (0) a0) with
      | none =>
        none
      | some r3 =>
        bif decide (r3.t26 < r3.t25) then
          if (0 : Int) ≤ r3.t26 ∧ r3.t26 < (↑r3.t24.length : Int) then
            bif bif decide ((↑(List.length r3.t24[r3.t26.toNat]!) : Int) = 96) then false else true then
              some (false)
            else
              none
          else
            none
        else
          match a44_1 (L44_1.mk r3.b0.fPending (↑r3.b0.fPending.length : Int) (0) r3.b0) with
          | none =>
            none
          | some r4 =>
            bif decide (r4.t37 < r4.t36) then
              if (0 : Int) ≤ r4.t37 ∧ r4.t37 < (↑r4.t35.length : Int) then
                match bif decide (r4.t35[r4.t37.toNat]!.fAt < 0) then
                  some (true)
                else
                  bif decide ((↑r4.b0.fDurable.length : Int) ≤ r4.t35[r4.t37.toNat]!.fAt) then
                    some (true)
                  else
                    some (bif decide ((↑r4.t35[r4.t37.toNat]!.fData.length : Int) = 96) then false else true) with
                | none =>
                  none
                | some r5 =>
                  bif r5 then
                    some (false)
                  else
                    none
              else
                none
            else
              some (true)
theorem c44 (a0 : Disk) : callR Try.prog (F44) 300 (an44) 44 [.agg (uni.cells 63 a0)] [] 0 rd44_e = m44 a0 := by kernel_rfl
noncomputable def o44 (x : E44) : Out := match (match outOf Try.prog 44 (pt44_e x) with
    | some ds => some (Out.mk (resA ds) (keepR (pt44_e x).R 0 (resA ds)) (pt44_e x).nx)
    | none => none) with
  | some o => o
  | none => ⟨.tup [], [], 0⟩
theorem fn44 (a0 : Disk) (r : E44) (h : m44 a0 = some r) : fnOk Try.prog 44 ∧ FnY Try.prog 44 [.agg (uni.cells 63 a0)] [] 0 (o44 r) :=
  fnY_of (p := r) F44_ok (fa44) rd44_e_ok (fun p => by kernel_rfl) (ltd_of (by kernel_rfl)) (rltd_of (by kernel_rfl)) ((c44 a0).trans h)
theorem fnok44 : fnOk Try.prog 44 := ⟨_, Try.func44, by kernel_rfl, by kernel_rfl⟩
noncomputable def e44 (F : Orc) : Orc := orL 44 false (pkC (asGc 63) pkN) (fun g => m44 g.1 : (Disk × Unit) → Option E44) o44 F
theorem e44_ok {F : Orc} (h : OrcG Try.prog F) : OrcG Try.prog (e44 F) := orL_g (sc := scU) h scU_ok fnok44 (ca := fun g => [.agg (uni.cells 63 g.1)]) ((.cons (.g 63) .nil) : PkN (pkC (asGc 63) pkN) _) (fun b => by kernel_rfl) (fun b => by kernel_rfl) (fun g b hb => (fn44 g.1 b hb).2)
theorem e44_pure {F : Orc} {f : Nat} (h : PureF F f) : PureF (e44 F) f := orL_pure h (fun b => by kernel_rfl)
/-! ### 24: keyhole/ledger.Format -/
noncomputable def F24 : Orc := (e47 (e46 (e45 (e15 or0))))
theorem F24_ok : OrcG Try.prog F24 := (e47_okv gv47 (e46_okv gv46 (e45_okv gv45 (e15_ok or0_g))))
structure L24_0 where
  t6 : List Int
  t8 : Int
  b0 : Disk
  b1 : Disk
abbrev P24_0 : Type := (Unit × Unit × Unit × Int × Unit) × (Disk × ((Unit × Unit × Int × Bool × Unit)) × (List Int) × Unit)
noncomputable def rb24_0 : St → Option P24_0 := stR 3 (slC 2 (asP 0 0) (slC 4 (asP 1 0) (slC 6 (asO 2) (slC 8 (asI .i64) slN)))) (rsN2 0 63 (asCs 63) (rsN2 1 63 (pkC asNs (pkC asNs (pkC (asI .i64) (pkC asB pkN)))) (rsR 2 5 rsN)))
noncomputable def pb24_0 : P24_0 → St := stP 3 (fun z => [(2, .ptr 0 0), (4, .ptr 1 0), (6, .own 2), (8, .n .i64 z.2.2.2.1)]) (fun z => [(0, .box 63 (uni.cells 63 z.1)), (1, .box 63 [.lit (.slice none 0 0), .lit (.slice none 0 0), .n .i64 z.2.1.2.2.1, .b z.2.1.2.2.2.1]), (2, .row 5 z.2.2.1)])
noncomputable def mk24_0 (z : P24_0) : L24_0 := ⟨z.2.2.2.1, z.1.2.2.2.1, z.2.1, (Disk.mk [] [] z.2.2.1.2.2.1 z.2.2.1.2.2.2.1)⟩
noncomputable def pt24_0 (x : L24_0) : St := pb24_0 (((), (), (), x.t8, ()), (x.b0, ((), (), x.b1.fLeft, x.b1.fDown, ()), x.t6, ()))
noncomputable def rd24_0 : St → Option L24_0 := rdC 0 [] [2, 4, 6, 8] (rdM mk24_0 rb24_0)
theorem rb24_0_ok (n : Nat) : RdOk 0 n rb24_0 pb24_0 := stR_ok (.cons (.p 0 0) (.cons (.p 1 0) (.cons (.o 2) (.cons (.i .i64) .nil)))) (.boxN (PkN.parse 63) (.boxN (.cons .ns (.cons .ns (.cons (.i .i64) (.cons .b .nil)))) (.row .nil)))
theorem rd24_0_ok (n : Nat) : RdOk 0 n rd24_0 pt24_0 := rdC_ok ((rb24_0_ok n).m mk24_0 (pat' := pt24_0) fun _ => rfl)
noncomputable def n24_0 (p : L24_0) : Option (Option L24_0) :=
  bif decide (p.t8 < (↑p.b0.fDurable.length : Int)) then
    match m46 p.b0 p.t8 (List.replicate 96 (0)) with
    | none =>
      none
    | some r1 =>
      bif bif decide (r1.snd = 0) then false else true then
        some (none)
      else
        some (some (L24_0.mk p.t6 (IntKind.i64.wrap (p.t8 + 1)) r1.fst (Disk.mk [] [] p.b1.fLeft p.b1.fDown)))
  else
    some (none)
theorem q24_0 (p : L24_0) : execA Try.prog (F24) Try.f24.ntmps 300 (loopAt Try.f24 0) .no (Option L24_0) (pt24_0 p) (kOn rd24_0) = n24_0 p := by kernel_rfl
noncomputable def a24_0 : L24_0 → Option L24_0 := advG (n24_0)
abbrev E24 : Type := Disk × Int
abbrev P24_e : Type := (Unit × Int × Unit) × (Disk × Unit)
noncomputable def rb24_e : St → Option P24_e := stR 1 (slC 4 (asP 0 0) (slC 5 (asI .i64) slN)) (rsN2 0 63 (asCs 63) rsN)
noncomputable def pb24_e : P24_e → St := stP 1 (fun z => [(4, .ptr 0 0), (5, .n .i64 z.2.1)]) (fun z => [(0, .box 63 (uni.cells 63 z.1))])
noncomputable def mk24_e (z : P24_e) : E24 := (z.2.1, z.1.2.1)
noncomputable def pt24_e (x : E24) : St := pb24_e (((), x.2, ()), (x.1, ()))
noncomputable def rd24_e : St → Option E24 := rdC 0 [] [4, 5] (rdM mk24_e rb24_e)
theorem rb24_e_ok (n : Nat) : RdOk 0 n rb24_e pb24_e := stR_ok (.cons (.p 0 0) (.cons (.i .i64) .nil)) (.boxN (PkN.parse 63) .nil)
theorem rd24_e_ok (n : Nat) : RdOk 0 n rd24_e pt24_e := rdC_ok ((rb24_e_ok n).m mk24_e (pat' := pt24_e) fun _ => rfl)
noncomputable def an24 : An := (.two .no (.two .no (.two (.two (.rb [45] 20) .no) (.two .no (.two (.two .no (.lp L24_0 rd24_0 pt24_0 a24_0 .no)) .no)))))
theorem pu24  : ∀ f ∈ ([45] : List Nat), PureF (F24) f := fun f hf => by
  simp only [List.mem_cons, List.not_mem_nil, or_false] at hf
  rcases hf with rfl
  · exact (e47_skip (f := 45) rfl (e46_skip (f := 45) rfl (e45_pure (e15_skip (f := 45) rfl or0_pure))))
theorem fa24 : FnAn Try.prog (F24) 0 300 24 (an24) := fnAn_of (l := [(.skip, (.rb [45] 20)), (loopAt Try.f24 0, (.lp L24_0 rd24_0 pt24_0 a24_0 .no))]) Try.func24 (bodyOf_eq (by kernel_rfl)) (by kernel_rfl) fun p hp => by
  simp only [List.mem_cons, List.not_mem_nil, or_false] at hp
  rcases hp with rfl | rfl
  · exact pu24
  · exact ⟨rd24_0_ok _, advG_ok (q24_0)⟩
noncomputable def m24 (a0 : Disk) (a1 : Head) : Option E24 :=
  match m15 a1 (0) with
  | none =>
    none
  | some r2 =>
    match bif bif decide (r2.snd = 0) then false else true then
      some (true)
    else
      match m45 a0 with
      | none =>
        none
      | some r3 =>
        some (bif r3 then false else true) with
    | none =>
      none
    | some r4 =>
      bif r4 then
        some ((Disk.mk [] [] (0) false, 1))
      else
        bif decide ((↑a0.fDurable.length : Int) = 1) then
          some ((Disk.mk [] [] (0) false, 16))
        else
          match a24_0 (L24_0.mk r2.fst (1) a0 (Disk.mk [] [] (0) false)) with
          | none =>
            none
          | some r5 =>
            bif decide (r5.t8 < (↑r5.b0.fDurable.length : Int)) then
              match m46 r5.b0 r5.t8 (List.replicate 96 (0)) with
              | none =>
                none
              | some r6 =>
                bif bif decide (r6.snd = 0) then false else true then
                  some (r6)
                else
                  none
            else
              match m46 r5.b0 (0) r5.t6 with
              | none =>
                none
              | some r7 =>
                bif bif decide (r7.snd = 0) then false else true then
                  some (r7)
                else
                  match m47 r7.fst with
                  | none =>
                    none
                  | some r8 =>
                    some (r8)
theorem c24 (a0 : Disk) (a1 : Head) : callR Try.prog (F24) 300 (an24) 24 [.agg (uni.cells 63 a0), .agg (uni.cells 38 a1)] [] 0 rd24_e = m24 a0 a1 := by kernel_rfl
noncomputable def o24 (x : E24) : Out := match (match outOf Try.prog 24 (pt24_e x) with
    | some ds => some (Out.mk (resA ds) (keepR (pt24_e x).R 0 (resA ds)) (pt24_e x).nx)
    | none => none) with
  | some o => o
  | none => ⟨.tup [], [], 0⟩
theorem fn24 (a0 : Disk) (a1 : Head) (r : E24) (h : m24 a0 a1 = some r) : fnOk Try.prog 24 ∧ FnY Try.prog 24 [.agg (uni.cells 63 a0), .agg (uni.cells 38 a1)] [] 0 (o24 r) :=
  fnY_of (p := r) F24_ok (fa24) rd24_e_ok (fun p => by kernel_rfl) (ltd_of (by kernel_rfl)) (rltd_of (by kernel_rfl)) ((c24 a0 a1).trans h)
theorem fnok24 : fnOk Try.prog 24 := ⟨_, Try.func24, by kernel_rfl, by kernel_rfl⟩
noncomputable def e24 (F : Orc) : Orc := orY 24 0 (qy0 (pkC (asGc 63) (pkC (asGc 38) pkN))) (fun g => m24 g.1 g.2.1 : (Disk × Head × Unit) → Option E24) o24 F
theorem e24_ok {F : Orc} (h : OrcG Try.prog F) : OrcG Try.prog (e24 F) := orY_g h fnok24 (qy0_ok (ca := fun g => [.agg (uni.cells 63 g.1), .agg (uni.cells 38 g.2.1)]) ((.cons (.g 63) (.cons (.g 38) .nil)) : PkN (pkC (asGc 63) (pkC (asGc 38) pkN)) _)) (fun b => by kernel_rfl) (fun g b hb => (fn24 g.1 g.2.1 b hb).2)
theorem e24_skip {F : Orc} {f : Nat} (hne : Nat.beq f 24 = false) (h : PureF F f) : PureF (e24 F) f := orY_skip hne h
/-! ### 50: keyhole/ledger.records -/
noncomputable def F50 : Orc := (e48 (e10 or0))
theorem F50_ok : OrcG Try.prog F50 := (e48_okv gv48 (e10_ok or0_g))
structure L50_0 where
  t1 : Int
  t5 : List Record
  t6 : Int
  t7 : Int
  b0 : Disk
abbrev P50_0 : Type := (Int × Unit × Unit × Int × Int × Unit) × (Disk × (List Record) × Unit)
noncomputable def rb50_0 : St → Option P50_0 := stR 2 (slC 1 (asI .i64) (slC 2 (asP 0 0) (slC 5 (asO 1) (slC 6 (asI .i64) (slC 7 (asI .i64) slN))))) (rsN2 0 63 (asCs 63) (rsR 1 23 rsN))
noncomputable def pb50_0 : P50_0 → St := stP 2 (fun z => [(1, .n .i64 z.1), (2, .ptr 0 0), (5, .own 1), (6, .n .i64 z.2.2.2.1), (7, .n .i64 z.2.2.2.2.1)]) (fun z => [(0, .box 63 (uni.cells 63 z.1)), (1, .row 23 z.2.1)])
noncomputable def mk50_0 (z : P50_0) : L50_0 := ⟨z.1.1, z.2.2.1, z.1.2.2.2.1, z.1.2.2.2.2.1, z.2.1⟩
noncomputable def pt50_0 (x : L50_0) : St := pb50_0 ((x.t1, (), (), x.t6, x.t7, ()), (x.b0, x.t5, ()))
noncomputable def rd50_0 : St → Option L50_0 := rdC 0 [] [1, 2, 5, 6, 7] (rdF (ownS 5 [] 23) (rdC 0 [] [1, 2, 5, 6, 7] (rdM mk50_0 rb50_0)))
theorem rb50_0_ok (n : Nat) : RdOk 0 n rb50_0 pb50_0 := stR_ok (.cons (.i .i64) (.cons (.p 0 0) (.cons (.o 1) (.cons (.i .i64) (.cons (.i .i64) .nil))))) (.boxN (PkN.parse 63) (.row .nil))
theorem rd50_0_ok (n : Nat) : RdOk 0 n rd50_0 pt50_0 := rdC_ok (rdF_ok (.s 5 [] 23) (rdC_ok ((rb50_0_ok n).m mk50_0 (pat' := pt50_0) fun _ => rfl)))
noncomputable def n50_0 (p : L50_0) : Option (Option L50_0) :=
  bif decide (p.t7 < (↑p.b0.fDurable.length : Int)) then
    match m48 p.b0 p.t7 with
    | none =>
      none
    | some r1 =>
      match m10 r1.fst with
      | none =>
        none
      | some r2 =>
        match bif bif decide (r1.snd = 0) then false else true then
          some (true)
        else
          bif bif r2.snd then false else true then
            some (true)
          else
            bif bif decide (r2.fst.fSeq = IntKind.i64.wrap (p.t7 - 1)) then false else true then
              some (true)
            else
              bif decide (r2.fst.fEpoch < p.t6) then
                some (true)
              else
                some (decide (p.t1 < r2.fst.fEpoch)) with
        | none =>
          none
        | some r3 =>
          bif r3 then
            some (none)
          else
            if (p.t5 ++ [r2.fst]).length ≤ 1073741824 then
              some (some (L50_0.mk p.t1 (p.t5 ++ [r2.fst]) r2.fst.fEpoch (IntKind.i64.wrap (p.t7 + 1)) p.b0))
            else
              none
  else
    some (none)
theorem q50_0 (p : L50_0) : execA Try.prog (F50) Try.f50.ntmps 300 (loopAt Try.f50 0) (.two .no (.two (.two .no (.two .no (.two (.two (.rb [] 54) .no) .no))) .no)) (Option L50_0) (pt50_0 p) (kOn rd50_0) = n50_0 p := by kernel_rfl
noncomputable def a50_0 : L50_0 → Option L50_0 := advG (n50_0)
abbrev E50 : Type := List Record
abbrev P50_e : Type := (Unit × Unit) × ((List Record) × Unit)
noncomputable def rb50_e : St → Option P50_e := stR 1 (slC 4 (asO 0) slN) (rsR 0 23 rsN)
noncomputable def pb50_e : P50_e → St := stP 1 (fun z => [(4, .own 0)]) (fun z => [(0, .row 23 z.1)])
noncomputable def mk50_e (z : P50_e) : E50 := z.2.1
noncomputable def pt50_e (x : E50) : St := pb50_e (((), ()), (x, ()))
noncomputable def rd50_e : St → Option E50 := rdC 0 [] [4] (rdM mk50_e rb50_e)
theorem rb50_e_ok (n : Nat) : RdOk 0 n rb50_e pb50_e := stR_ok (.cons (.o 0) .nil) (.row .nil)
theorem rd50_e_ok (n : Nat) : RdOk 0 n rd50_e pt50_e := rdC_ok ((rb50_e_ok n).m mk50_e (pat' := pt50_e) fun _ => rfl)
noncomputable def an50 : An := (.two .no (.two .no (.two .no (.two (.two .no (.lp L50_0 rd50_0 pt50_0 a50_0 (.two .no (.two (.two .no (.two .no (.two (.two (.rb [] 54) .no) .no))) .no)))) .no))))
theorem pu50  : ∀ f ∈ ([] : List Nat), PureF (F50) f := fun f hf => by
  cases hf
theorem fa50 : FnAn Try.prog (F50) 0 300 50 (an50) := fnAn_of (l := [(loopAt Try.f50 0, (.lp L50_0 rd50_0 pt50_0 a50_0 (.two .no (.two (.two .no (.two .no (.two (.two (.rb [] 54) .no) .no))) .no)))), (.skip, (.rb [] 54))]) Try.func50 (bodyOf_eq (by kernel_rfl)) (by kernel_rfl) fun p hp => by
  simp only [List.mem_cons, List.not_mem_nil, or_false] at hp
  rcases hp with rfl | rfl
  · exact ⟨rd50_0_ok _, advG_ok (q50_0)⟩
  · exact pu50
noncomputable def m50 (a0 : Disk) (a1 : Int) : Option E50 :=
  match a50_0 (L50_0.mk a1 [] (1) (1) a0) with
  | none =>
    none
  | some r4 =>
    bif decide (r4.t7 < (↑r4.b0.fDurable.length : Int)) then
      match m48 r4.b0 r4.t7 with
      | none =>
        none
      | some r5 =>
        match m10 r5.fst with
        | none =>
          none
        | some r6 =>
          match bif bif decide (r5.snd = 0) then false else true then
            some (true)
          else
            bif bif r6.snd then false else true then
              some (true)
            else
              bif bif decide (r6.fst.fSeq = IntKind.i64.wrap (r4.t7 - 1)) then false else true then
                some (true)
              else
                bif decide (r6.fst.fEpoch < r4.t6) then
                  some (true)
                else
                  some (decide (r4.t1 < r6.fst.fEpoch)) with
          | none =>
            none
          | some r7 =>
            bif r7 then
              some (r4.t5)
            else
              if (r4.t5 ++ [r6.fst]).length ≤ 1073741824 then
                none
              else
                none
    else
      some (r4.t5)
theorem c50 (a0 : Disk) (a1 : Int) : callR Try.prog (F50) 300 (an50) 50 [.agg (uni.cells 63 a0), .n .i64 a1] [] 0 rd50_e = m50 a0 a1 := by kernel_rfl
noncomputable def o50 (x : E50) : Out := match (match outOf Try.prog 50 (pt50_e x) with
    | some ds => some (Out.mk (resA ds) (keepR (pt50_e x).R 0 (resA ds)) (pt50_e x).nx)
    | none => none) with
  | some o => o
  | none => ⟨.tup [], [], 0⟩
theorem fn50 (a0 : Disk) (a1 : Int) (r : E50) (h : m50 a0 a1 = some r) : fnOk Try.prog 50 ∧ FnY Try.prog 50 [.agg (uni.cells 63 a0), .n .i64 a1] [] 0 (o50 r) :=
  fnY_of (p := r) F50_ok (fa50) rd50_e_ok (fun p => by kernel_rfl) (ltd_of (by kernel_rfl)) (rltd_of (by kernel_rfl)) ((c50 a0 a1).trans h)
theorem fnok50 : fnOk Try.prog 50 := ⟨_, Try.func50, by kernel_rfl, by kernel_rfl⟩
noncomputable def e50 (F : Orc) : Orc := orL 50 false (pkC (asGc 63) (pkC (asI .i64) pkN)) (fun g => m50 g.1 g.2.1 : (Disk × Int × Unit) → Option E50) o50 F
theorem e50_ok {F : Orc} (h : OrcG Try.prog F) : OrcG Try.prog (e50 F) := orL_g (sc := scU) h scU_ok fnok50 (ca := fun g => [.agg (uni.cells 63 g.1), .n .i64 g.2.1]) ((.cons (.g 63) (.cons (.i .i64) .nil)) : PkN (pkC (asGc 63) (pkC (asI .i64) pkN)) _) (fun b => by kernel_rfl) (fun b => by kernel_rfl) (fun g b hb => (fn50 g.1 g.2.1 b hb).2)
theorem e50_skip {F : Orc} {f : Nat} (hne : Nat.beq f 50 = false) (h : PureF F f) : PureF (e50 F) f := orL_skip hne h
/-! ### 26: keyhole/ledger.Open -/
noncomputable def F26 : Orc := (e50 (e49 (e48 (e47 (e46 (e45 (e43 (e17 (e16 (e15 or0))))))))))
theorem F26_ok : OrcG Try.prog F26 := (e50_ok (e49_ok (e48_okv gv48 (e47_okv gv47 (e46_okv gv46 (e45_okv gv45 (e43_ok (e17_ok (e16_ok (e15_ok or0_g))))))))))
abbrev E26 : Type := Disk × (List Record) × Int × Int
abbrev P26_e : Type := (Unit × Unit × Int × Int × Unit) × (Disk × (List Record) × Unit)
noncomputable def rb26_e : St → Option P26_e := stR 2 (slC 4 (asP 0 0) (slC 5 (asO 1) (slC 6 (asI .i64) (slC 7 (asI .i64) slN)))) (rsN2 0 63 (asCs 63) (rsR 1 23 rsN))
noncomputable def pb26_e : P26_e → St := stP 2 (fun z => [(4, .ptr 0 0), (5, .own 1), (6, .n .i64 z.2.2.1), (7, .n .i64 z.2.2.2.1)]) (fun z => [(0, .box 63 (uni.cells 63 z.1)), (1, .row 23 z.2.1)])
noncomputable def mk26_e (z : P26_e) : E26 := (z.2.1, z.2.2.1, z.1.2.2.1, z.1.2.2.2.1)
noncomputable def pt26_e (x : E26) : St := pb26_e (((), (), x.2.2.1, x.2.2.2, ()), (x.1, x.2.1, ()))
noncomputable def rd26_e : St → Option E26 := rdC 0 [] [4, 5, 6, 7] (rdF (ownS 5 [] 23) (rdC 0 [] [4, 5, 6, 7] (rdM mk26_e rb26_e)))
theorem rb26_e_ok (n : Nat) : RdOk 0 n rb26_e pb26_e := stR_ok (.cons (.p 0 0) (.cons (.o 1) (.cons (.i .i64) (.cons (.i .i64) .nil)))) (.boxN (PkN.parse 63) (.row .nil))
theorem rd26_e_ok (n : Nat) : RdOk 0 n rd26_e pt26_e := rdC_ok (rdF_ok (.s 5 [] 23) (rdC_ok ((rb26_e_ok n).m mk26_e (pat' := pt26_e) fun _ => rfl)))
noncomputable def an26 : An := (.two .no (.two (.two (.rb [16, 43, 45] 22) .no) (.two .no (.two .no (.two .no (.two (.two (.rb [16, 43, 45] 56) .no) .no))))))
theorem pu26  : ∀ f ∈ ([16, 43, 45] : List Nat), PureF (F26) f := fun f hf => by
  simp only [List.mem_cons, List.not_mem_nil, or_false] at hf
  rcases hf with rfl | rfl | rfl
  · exact (e50_skip (f := 16) rfl (e49_skip (f := 16) rfl (e48_skip (f := 16) rfl (e47_skip (f := 16) rfl (e46_skip (f := 16) rfl (e45_pure (e43_pure (e17_skip (f := 16) rfl (e16_pure (e15_skip (f := 16) rfl or0_pure))))))))))
  · exact (e50_skip (f := 43) rfl (e49_skip (f := 43) rfl (e48_skip (f := 43) rfl (e47_skip (f := 43) rfl (e46_skip (f := 43) rfl (e45_pure (e43_pure (e17_skip (f := 43) rfl (e16_pure (e15_skip (f := 43) rfl or0_pure))))))))))
  · exact (e50_skip (f := 45) rfl (e49_skip (f := 45) rfl (e48_skip (f := 45) rfl (e47_skip (f := 45) rfl (e46_skip (f := 45) rfl (e45_pure (e43_pure (e17_skip (f := 45) rfl (e16_pure (e15_skip (f := 45) rfl or0_pure))))))))))
theorem fa26 : FnAn Try.prog (F26) 0 300 26 (an26) := fnAn_of (l := [(.skip, (.rb [16, 43, 45] 22)), (.skip, (.rb [16, 43, 45] 56))]) Try.func26 (bodyOf_eq (by kernel_rfl)) (by kernel_rfl) fun p hp => by
  simp only [List.mem_cons, List.not_mem_nil, or_false] at hp
  rcases hp with rfl | rfl
  · exact pu26
  · exact pu26
noncomputable def m26 (a0 : Disk) (a1 : Head) : Option E26 :=
  match match m45 a0 with
  | none =>
    none
  | some r1 =>
    bif bif r1 then false else true then
      some (true)
    else
      match m16 a1 with
      | none =>
        none
      | some r2 =>
        some (bif decide (r2 = 0) then false else true) with
  | none =>
    none
  | some r3 =>
    bif r3 then
      some ((Disk.mk [] [] (0) false, [], 0, 1))
    else
      match m48 a0 (0) with
      | none =>
        none
      | some r4 =>
        bif decide (r4.snd = 17) then
          match m49 a0 with
          | none =>
            none
          | some r5 =>
            some ((r5, [], 0, r4.snd))
        else
          match m17 r4.fst with
          | none =>
            none
          | some r6 =>
            match bif bif r6.snd.snd then false else true then
              some (true)
            else
              bif bif decide (r6.fst.fMode = a1.fMode) then false else true then
                some (true)
              else
                match m43 r6.fst.fBudgets a1.fBudgets with
                | none =>
                  none
                | some r7 =>
                  some (bif r7 then false else true) with
            | none =>
              none
            | some r8 =>
              bif r8 then
                some ((Disk.mk [] [] (0) false, [], 0, 2))
              else
                match m15 a1 (IntKind.i64.wrap (r6.snd.fst + 1)) with
                | none =>
                  none
                | some r9 =>
                  bif bif decide (r9.snd = 0) then false else true then
                    some ((Disk.mk [] [] (0) false, [], 0, 16))
                  else
                    match m50 a0 r6.snd.fst with
                    | none =>
                      none
                    | some r10 =>
                      match m46 a0 (0) r9.fst with
                      | none =>
                        none
                      | some r11 =>
                        bif decide (r11.snd = 0) then
                          match m47 r11.fst with
                          | none =>
                            none
                          | some r12 =>
                            bif bif decide (r12.snd = 0) then false else true then
                              some ((r12.fst, [], 0, r12.snd))
                            else
                              some ((r12.fst, r10, IntKind.i64.wrap (r6.snd.fst + 1), 0))
                        else
                          bif bif decide (r11.snd = 0) then false else true then
                            some ((r11.fst, [], 0, r11.snd))
                          else
                            some ((r11.fst, r10, IntKind.i64.wrap (r6.snd.fst + 1), 0))
theorem c26 (a0 : Disk) (a1 : Head) : callR Try.prog (F26) 300 (an26) 26 [.agg (uni.cells 63 a0), .agg (uni.cells 38 a1)] [] 0 rd26_e = m26 a0 a1 := by kernel_rfl
noncomputable def o26 (x : E26) : Out := match (match outOf Try.prog 26 (pt26_e x) with
    | some ds => some (Out.mk (resA ds) (keepR (pt26_e x).R 0 (resA ds)) (pt26_e x).nx)
    | none => none) with
  | some o => o
  | none => ⟨.tup [], [], 0⟩
theorem fn26 (a0 : Disk) (a1 : Head) (r : E26) (h : m26 a0 a1 = some r) : fnOk Try.prog 26 ∧ FnY Try.prog 26 [.agg (uni.cells 63 a0), .agg (uni.cells 38 a1)] [] 0 (o26 r) :=
  fnY_of (p := r) F26_ok (fa26) rd26_e_ok (fun p => by kernel_rfl) (ltd_of (by kernel_rfl)) (rltd_of (by kernel_rfl)) ((c26 a0 a1).trans h)
theorem fnok26 : fnOk Try.prog 26 := ⟨_, Try.func26, by kernel_rfl, by kernel_rfl⟩
noncomputable def e26 (F : Orc) : Orc := orY 26 0 (qy0 (pkC (asGc 63) (pkC (asGc 38) pkN))) (fun g => m26 g.1 g.2.1 : (Disk × Head × Unit) → Option E26) o26 F
theorem e26_ok {F : Orc} (h : OrcG Try.prog F) : OrcG Try.prog (e26 F) := orY_g h fnok26 (qy0_ok (ca := fun g => [.agg (uni.cells 63 g.1), .agg (uni.cells 38 g.2.1)]) ((.cons (.g 63) (.cons (.g 38) .nil)) : PkN (pkC (asGc 63) (pkC (asGc 38) pkN)) _)) (fun b => by kernel_rfl) (fun g b hb => (fn26 g.1 g.2.1 b hb).2)
theorem e26_skip {F : Orc} {f : Nat} (hne : Nat.beq f 26 = false) (h : PureF F f) : PureF (e26 F) f := orY_skip hne h
/-! ### 27: keyhole/ledger.Append -/
noncomputable def F27 : Orc := (e49 (e47 (e46 (e45 (e8 or0)))))
theorem F27_ok : OrcG Try.prog F27 := (e49_ok (e47_okv gv47 (e46_okv gv46 (e45_okv gv45 (e8_ok or0_g)))))
structure L27_1 where
  t1 : Int
  t2 : Int
  t73 : List Record
  t74 : Int
  t75 : Int
  b0 : Disk
  b1 : Disk
abbrev P27_1 : Type := (Int × Int × Unit × Unit × (List Record) × Int × Int × Unit) × (Disk × ((Unit × Unit × Int × Bool × Unit)) × Unit)
noncomputable def rb27_1 : St → Option P27_1 := stR 2 (slC 1 (asI .i64) (slC 2 (asI .i64) (slC 4 (asP 0 0) (slC 8 (asP 1 0) (slC 73 (asL 23) (slC 74 (asI .i64) (slC 75 (asI .i64) slN))))))) (rsN2 0 63 (asCs 63) (rsN2 1 63 (pkC asNs (pkC asNs (pkC (asI .i64) (pkC asB pkN)))) rsN))
noncomputable def pb27_1 : P27_1 → St := stP 2 (fun z => [(1, .n .i64 z.1), (2, .n .i64 z.2.1), (4, .ptr 0 0), (8, .ptr 1 0), (73, .sl 23 z.2.2.2.2.1), (74, .n .i64 z.2.2.2.2.2.1), (75, .n .i64 z.2.2.2.2.2.2.1)]) (fun z => [(0, .box 63 (uni.cells 63 z.1)), (1, .box 63 [.lit (.slice none 0 0), .lit (.slice none 0 0), .n .i64 z.2.1.2.2.1, .b z.2.1.2.2.2.1])])
noncomputable def mk27_1 (z : P27_1) : L27_1 := ⟨z.1.1, z.1.2.1, z.1.2.2.2.2.1, z.1.2.2.2.2.2.1, z.1.2.2.2.2.2.2.1, z.2.1, (Disk.mk [] [] z.2.2.1.2.2.1 z.2.2.1.2.2.2.1)⟩
noncomputable def pt27_1 (x : L27_1) : St := pb27_1 ((x.t1, x.t2, (), (), x.t73, x.t74, x.t75, ()), (x.b0, ((), (), x.b1.fLeft, x.b1.fDown, ()), ()))
noncomputable def rd27_1 : St → Option L27_1 := rdC 0 [] [1, 2, 4, 8, 73, 74, 75] (rdM mk27_1 rb27_1)
theorem rb27_1_ok (n : Nat) : RdOk 0 n rb27_1 pb27_1 := stR_ok (.cons (.i .i64) (.cons (.i .i64) (.cons (.p 0 0) (.cons (.p 1 0) (.cons (.l 23) (.cons (.i .i64) (.cons (.i .i64) .nil))))))) (.boxN (PkN.parse 63) (.boxN (.cons .ns (.cons .ns (.cons (.i .i64) (.cons .b .nil)))) .nil))
theorem rd27_1_ok (n : Nat) : RdOk 0 n rd27_1 pt27_1 := rdC_ok ((rb27_1_ok n).m mk27_1 (pat' := pt27_1) fun _ => rfl)
noncomputable def n27_1 (p : L27_1) : Option (Option L27_1) :=
  bif decide (p.t75 < p.t74) then
    if (0 : Int) ≤ p.t75 ∧ p.t75 < (↑p.t73.length : Int) then
      match m8 (Record.mk p.t1 (IntKind.i64.wrap (p.t2 + p.t75)) p.t73[p.t75.toNat]!.fSecret p.t73[p.t75.toNat]!.fClient p.t73[p.t75.toNat]!.fNumber p.t73[p.t75.toNat]!.fProgram p.t73[p.t75.toNat]!.fPublic p.t73[p.t75.toNat]!.fAnswer p.t73[p.t75.toNat]!.fCharge) with
      | none =>
        none
      | some r2 =>
        match m46 p.b0 (IntKind.i64.wrap (IntKind.i64.wrap (1 + p.t2) + p.t75)) r2.fst with
        | none =>
          none
        | some r3 =>
          bif bif decide (r3.snd = 0) then false else true then
            some (none)
          else
            some (some (L27_1.mk p.t1 p.t2 p.t73 p.t74 (IntKind.i64.wrap (p.t75 + 1)) r3.fst (Disk.mk [] [] p.b1.fLeft p.b1.fDown)))
    else
      none
  else
    some (none)
theorem q27_1 (p : L27_1) : execA Try.prog (F27) Try.f27.ntmps 300 (loopAt Try.f27 1) .no (Option L27_1) (pt27_1 p) (kOn rd27_1) = n27_1 p := by kernel_rfl
noncomputable def a27_1 : L27_1 → Option L27_1 := advG (n27_1)
structure L27_0 where
  t1 : Int
  t2 : Int
  t3 : List Record
  t35 : List Record
  t36 : Int
  t37 : Int
  b0 : Disk
  b1 : Disk
abbrev P27_0 : Type := (Int × Int × (List Record) × Unit × Unit × (List Record) × Int × Int × Unit) × (Disk × ((Unit × Unit × Int × Bool × Unit)) × Unit)
noncomputable def rb27_0 : St → Option P27_0 := stR 2 (slC 1 (asI .i64) (slC 2 (asI .i64) (slC 3 (asL 23) (slC 4 (asP 0 0) (slC 8 (asP 1 0) (slC 35 (asL 23) (slC 36 (asI .i64) (slC 37 (asI .i64) slN)))))))) (rsN2 0 63 (asCs 63) (rsN2 1 63 (pkC asNs (pkC asNs (pkC (asI .i64) (pkC asB pkN)))) rsN))
noncomputable def pb27_0 : P27_0 → St := stP 2 (fun z => [(1, .n .i64 z.1), (2, .n .i64 z.2.1), (3, .sl 23 z.2.2.1), (4, .ptr 0 0), (8, .ptr 1 0), (35, .sl 23 z.2.2.2.2.2.1), (36, .n .i64 z.2.2.2.2.2.2.1), (37, .n .i64 z.2.2.2.2.2.2.2.1)]) (fun z => [(0, .box 63 (uni.cells 63 z.1)), (1, .box 63 [.lit (.slice none 0 0), .lit (.slice none 0 0), .n .i64 z.2.1.2.2.1, .b z.2.1.2.2.2.1])])
noncomputable def mk27_0 (z : P27_0) : L27_0 := ⟨z.1.1, z.1.2.1, z.1.2.2.1, z.1.2.2.2.2.2.1, z.1.2.2.2.2.2.2.1, z.1.2.2.2.2.2.2.2.1, z.2.1, (Disk.mk [] [] z.2.2.1.2.2.1 z.2.2.1.2.2.2.1)⟩
noncomputable def pt27_0 (x : L27_0) : St := pb27_0 ((x.t1, x.t2, x.t3, (), (), x.t35, x.t36, x.t37, ()), (x.b0, ((), (), x.b1.fLeft, x.b1.fDown, ()), ()))
noncomputable def rd27_0 : St → Option L27_0 := rdC 0 [] [1, 2, 3, 4, 8, 35, 36, 37] (rdM mk27_0 rb27_0)
theorem rb27_0_ok (n : Nat) : RdOk 0 n rb27_0 pb27_0 := stR_ok (.cons (.i .i64) (.cons (.i .i64) (.cons (.l 23) (.cons (.p 0 0) (.cons (.p 1 0) (.cons (.l 23) (.cons (.i .i64) (.cons (.i .i64) .nil)))))))) (.boxN (PkN.parse 63) (.boxN (.cons .ns (.cons .ns (.cons (.i .i64) (.cons .b .nil)))) .nil))
theorem rd27_0_ok (n : Nat) : RdOk 0 n rd27_0 pt27_0 := rdC_ok ((rb27_0_ok n).m mk27_0 (pat' := pt27_0) fun _ => rfl)
noncomputable def n27_0 (p : L27_0) : Option (Option L27_0) :=
  bif decide (p.t37 < p.t36) then
    if (0 : Int) ≤ p.t37 ∧ p.t37 < (↑p.t35.length : Int) then
      match m8 (Record.mk (0) (0) p.t35[p.t37.toNat]!.fSecret p.t35[p.t37.toNat]!.fClient p.t35[p.t37.toNat]!.fNumber p.t35[p.t37.toNat]!.fProgram p.t35[p.t37.toNat]!.fPublic p.t35[p.t37.toNat]!.fAnswer p.t35[p.t37.toNat]!.fCharge) with
      | none =>
        none
      | some r1 =>
        bif bif decide (r1.snd = 0) then false else true then
          some (none)
        else
          some (some (L27_0.mk p.t1 p.t2 p.t3 p.t35 p.t36 (IntKind.i64.wrap (p.t37 + 1)) p.b0 (Disk.mk [] [] p.b1.fLeft p.b1.fDown)))
    else
      none
  else
    some (none)
theorem q27_0 (p : L27_0) : execA Try.prog (F27) Try.f27.ntmps 300 (loopAt Try.f27 0) .no (Option L27_0) (pt27_0 p) (kOn rd27_0) = n27_0 p := by kernel_rfl
noncomputable def a27_0 : L27_0 → Option L27_0 := advG (n27_0)
abbrev E27 : Type := Disk × Int
abbrev P27_e : Type := (Unit × Int × Unit) × (Disk × Unit)
noncomputable def rb27_e : St → Option P27_e := stR 1 (slC 8 (asP 0 0) (slC 9 (asI .i64) slN)) (rsN2 0 63 (asCs 63) rsN)
noncomputable def pb27_e : P27_e → St := stP 1 (fun z => [(8, .ptr 0 0), (9, .n .i64 z.2.1)]) (fun z => [(0, .box 63 (uni.cells 63 z.1))])
noncomputable def mk27_e (z : P27_e) : E27 := (z.2.1, z.1.2.1)
noncomputable def pt27_e (x : E27) : St := pb27_e (((), x.2, ()), (x.1, ()))
noncomputable def rd27_e : St → Option E27 := rdC 0 [] [8, 9] (rdM mk27_e rb27_e)
theorem rb27_e_ok (n : Nat) : RdOk 0 n rb27_e pb27_e := stR_ok (.cons (.p 0 0) (.cons (.i .i64) .nil)) (.boxN (PkN.parse 63) .nil)
theorem rd27_e_ok (n : Nat) : RdOk 0 n rd27_e pt27_e := rdC_ok ((rb27_e_ok n).m mk27_e (pat' := pt27_e) fun _ => rfl)
noncomputable def an27 : An := (.two .no (.two (.two (.rb [45] 33) .no) (.two (.two .no (.lp L27_0 rd27_0 pt27_0 a27_0 .no)) (.two .no (.two (.two (.rb [45] 71) .no) (.two (.two .no (.lp L27_1 rd27_1 pt27_1 a27_1 .no)) .no))))))
theorem pu27  : ∀ f ∈ ([45] : List Nat), PureF (F27) f := fun f hf => by
  simp only [List.mem_cons, List.not_mem_nil, or_false] at hf
  rcases hf with rfl
  · exact (e49_skip (f := 45) rfl (e47_skip (f := 45) rfl (e46_skip (f := 45) rfl (e45_pure (e8_skip (f := 45) rfl or0_pure)))))
theorem fa27 : FnAn Try.prog (F27) 0 300 27 (an27) := fnAn_of (l := [(.skip, (.rb [45] 33)), (loopAt Try.f27 0, (.lp L27_0 rd27_0 pt27_0 a27_0 .no)), (.skip, (.rb [45] 71)), (loopAt Try.f27 1, (.lp L27_1 rd27_1 pt27_1 a27_1 .no))]) Try.func27 (bodyOf_eq (by kernel_rfl)) (by kernel_rfl) fun p hp => by
  simp only [List.mem_cons, List.not_mem_nil, or_false] at hp
  rcases hp with rfl | rfl | rfl | rfl
  · exact pu27
  · exact ⟨rd27_0_ok _, advG_ok (q27_0)⟩
  · exact pu27
  · exact ⟨rd27_1_ok _, advG_ok (q27_1)⟩
noncomputable def m27 (a0 : Disk) (a1 : Int) (a2 : Int) (a3 : List Record) : Option E27 :=
  match match m45 a0 with
  | none =>
    none
  | some r4 =>
    bif bif r4 then false else true then
      some (true)
    else
      bif decide (a1 < 1) then
        some (true)
      else
        bif decide (2147483647 < a1) then
          some (true)
        else
          some (decide (a2 < 0)) with
  | none =>
    none
  | some r5 =>
    bif r5 then
      some ((Disk.mk [] [] (0) false, 1))
    else
      match a27_0 (L27_0.mk a1 a2 a3 a3 (↑a3.length : Int) (0) a0 (Disk.mk [] [] (0) false)) with
      | none =>
        none
      | some r6 =>
        bif decide (r6.t37 < r6.t36) then
          if (0 : Int) ≤ r6.t37 ∧ r6.t37 < (↑r6.t35.length : Int) then
            match m8 (Record.mk (0) (0) r6.t35[r6.t37.toNat]!.fSecret r6.t35[r6.t37.toNat]!.fClient r6.t35[r6.t37.toNat]!.fNumber r6.t35[r6.t37.toNat]!.fProgram r6.t35[r6.t37.toNat]!.fPublic r6.t35[r6.t37.toNat]!.fAnswer r6.t35[r6.t37.toNat]!.fCharge) with
            | none =>
              none
            | some r7 =>
              bif bif decide (r7.snd = 0) then false else true then
                some ((Disk.mk [] [] (0) false, 1))
              else
                none
          else
            none
        else
          bif decide ((↑r6.t3.length : Int) = 0) then
            match m49 r6.b0 with
            | none =>
              none
            | some r8 =>
              some ((r8, 0))
          else
            match bif decide ((↑r6.b0.fDurable.length : Int) ≤ r6.t2) then
              some (true)
            else
              some (decide ((↑r6.b0.fDurable.length : Int) ≤ IntKind.i64.wrap (r6.t2 + (↑r6.t3.length : Int)))) with
            | none =>
              none
            | some r9 =>
              bif r9 then
                some ((Disk.mk [] [] (0) false, 16))
              else
                match a27_1 (L27_1.mk r6.t1 r6.t2 r6.t3 (↑r6.t3.length : Int) (0) r6.b0 (Disk.mk [] [] r6.b1.fLeft r6.b1.fDown)) with
                | none =>
                  none
                | some r10 =>
                  bif decide (r10.t75 < r10.t74) then
                    if (0 : Int) ≤ r10.t75 ∧ r10.t75 < (↑r10.t73.length : Int) then
                      match m8 (Record.mk r10.t1 (IntKind.i64.wrap (r10.t2 + r10.t75)) r10.t73[r10.t75.toNat]!.fSecret r10.t73[r10.t75.toNat]!.fClient r10.t73[r10.t75.toNat]!.fNumber r10.t73[r10.t75.toNat]!.fProgram r10.t73[r10.t75.toNat]!.fPublic r10.t73[r10.t75.toNat]!.fAnswer r10.t73[r10.t75.toNat]!.fCharge) with
                      | none =>
                        none
                      | some r11 =>
                        match m46 r10.b0 (IntKind.i64.wrap (IntKind.i64.wrap (1 + r10.t2) + r10.t75)) r11.fst with
                        | none =>
                          none
                        | some r12 =>
                          bif bif decide (r12.snd = 0) then false else true then
                            some (r12)
                          else
                            none
                    else
                      none
                  else
                    match m47 r10.b0 with
                    | none =>
                      none
                    | some r13 =>
                      some (r13)
theorem c27 (a0 : Disk) (a1 : Int) (a2 : Int) (a3 : List Record) : callR Try.prog (F27) 300 (an27) 27 [.agg (uni.cells 63 a0), .n .i64 a1, .n .i64 a2, .sl 23 a3] [] 0 rd27_e = m27 a0 a1 a2 a3 := by kernel_rfl
noncomputable def o27 (x : E27) : Out := match (match outOf Try.prog 27 (pt27_e x) with
    | some ds => some (Out.mk (resA ds) (keepR (pt27_e x).R 0 (resA ds)) (pt27_e x).nx)
    | none => none) with
  | some o => o
  | none => ⟨.tup [], [], 0⟩
theorem fn27 (a0 : Disk) (a1 : Int) (a2 : Int) (a3 : List Record) (r : E27) (h : m27 a0 a1 a2 a3 = some r) : fnOk Try.prog 27 ∧ FnY Try.prog 27 [.agg (uni.cells 63 a0), .n .i64 a1, .n .i64 a2, .sl 23 a3] [] 0 (o27 r) :=
  fnY_of (p := r) F27_ok (fa27) rd27_e_ok (fun p => by kernel_rfl) (ltd_of (by kernel_rfl)) (rltd_of (by kernel_rfl)) ((c27 a0 a1 a2 a3).trans h)
theorem fnok27 : fnOk Try.prog 27 := ⟨_, Try.func27, by kernel_rfl, by kernel_rfl⟩
noncomputable def e27 (F : Orc) : Orc := orY 27 0 (qy0 (pkC (asGc 63) (pkC (asI .i64) (pkC (asI .i64) (pkC (asL 23) pkN))))) (fun g => m27 g.1 g.2.1 g.2.2.1 g.2.2.2.1 : (Disk × Int × Int × (List Record) × Unit) → Option E27) o27 F
theorem e27_ok {F : Orc} (h : OrcG Try.prog F) : OrcG Try.prog (e27 F) := orY_g h fnok27 (qy0_ok (ca := fun g => [.agg (uni.cells 63 g.1), .n .i64 g.2.1, .n .i64 g.2.2.1, .sl 23 g.2.2.2.1]) ((.cons (.g 63) (.cons (.i .i64) (.cons (.i .i64) (.cons (.l 23) .nil)))) : PkN (pkC (asGc 63) (pkC (asI .i64) (pkC (asI .i64) (pkC (asL 23) pkN)))) _)) (fun b => by kernel_rfl) (fun g b hb => (fn27 g.1 g.2.1 g.2.2.1 g.2.2.2.1 b hb).2)
theorem e27_skip {F : Orc} {f : Nat} (hne : Nat.beq f 27 = false) (h : PureF F f) : PureF (e27 F) f := orY_skip hne h
/-! ### 28: keyhole/keyholelaw50.Crash -/
noncomputable def F28 : Orc := (e51 or0)
theorem F28_ok : OrcG Try.prog F28 := (e51_ok or0_g)
structure L28_0 where
  t1 : List Bool
  t11 : List Write
  t12 : Int
  t13 : Int
  b0 : Disk
  b1 : Disk
abbrev P28_0 : Type := ((List Bool) × Unit × Unit × Unit × Int × Int × Unit) × (((Unit × Unit × Int × Bool × Unit)) × ((Unit × Unit × Int × Bool × Unit)) × (List Write) × (List (List Int)) × Unit)
noncomputable def rb28_0 : St → Option P28_0 := stR 4 (slC 1 (asL 4) (slC 4 (asP 0 0) (slC 5 (asP 1 0) (slC 11 (asO 2) (slC 12 (asI .i64) (slC 13 (asI .i64) slN)))))) (rsN2 0 63 (pkC asNs (pkC asNs (pkC (asI .i64) (pkC asB pkN)))) (rsN2 1 63 (pkC (asO 3) (pkC (asO 2) (pkC (asI .i64) (pkC asB pkN)))) (rsR 2 90 (rsR 3 24 rsN))))
noncomputable def pb28_0 : P28_0 → St := stP 4 (fun z => [(1, .sl 4 z.1), (4, .ptr 0 0), (5, .ptr 1 0), (11, .own 2), (12, .n .i64 z.2.2.2.2.1), (13, .n .i64 z.2.2.2.2.2.1)]) (fun z => [(0, .box 63 [.lit (.slice none 0 0), .lit (.slice none 0 0), .n .i64 z.1.2.2.1, .b z.1.2.2.2.1]), (1, .box 63 [.own 3, .own 2, .n .i64 z.2.1.2.2.1, .b z.2.1.2.2.2.1]), (2, .row 90 z.2.2.1), (3, .row 24 z.2.2.2.1)])
noncomputable def mk28_0 (z : P28_0) : L28_0 := ⟨z.1.1, z.2.2.2.1, z.1.2.2.2.2.1, z.1.2.2.2.2.2.1, (Disk.mk [] [] z.2.1.2.2.1 z.2.1.2.2.2.1), (Disk.mk z.2.2.2.2.1 z.2.2.2.1 z.2.2.1.2.2.1 z.2.2.1.2.2.2.1)⟩
noncomputable def pt28_0 (x : L28_0) : St := pb28_0 ((x.t1, (), (), (), x.t12, x.t13, ()), (((), (), x.b0.fLeft, x.b0.fDown, ()), ((), (), x.b1.fLeft, x.b1.fDown, ()), x.b1.fPending, x.b1.fDurable, ()))
noncomputable def rd28_0 : St → Option L28_0 := rdC 0 [] [1, 4, 5, 11, 12, 13] (rdM mk28_0 rb28_0)
theorem rb28_0_ok (n : Nat) : RdOk 0 n rb28_0 pb28_0 := stR_ok (.cons (.l 4) (.cons (.p 0 0) (.cons (.p 1 0) (.cons (.o 2) (.cons (.i .i64) (.cons (.i .i64) .nil)))))) (.boxN (.cons .ns (.cons .ns (.cons (.i .i64) (.cons .b .nil)))) (.boxN (.cons (.o 3) (.cons (.o 2) (.cons (.i .i64) (.cons .b .nil)))) (.row (.row .nil))))
theorem rd28_0_ok (n : Nat) : RdOk 0 n rd28_0 pt28_0 := rdC_ok ((rb28_0_ok n).m mk28_0 (pat' := pt28_0) fun _ => rfl)
noncomputable def n28_0 (p : L28_0) : Option (Option L28_0) :=
  bif decide (p.t13 < p.t12) then
    if (0 : Int) ≤ p.t13 ∧ p.t13 < (↑p.b1.fPending.length : Int) then
      if 90 = 90 ∧ p.t13.toNat < p.b1.fPending.length then
        match bif decide (p.t13 < (↑p.t1.length : Int)) then
          if (0 : Int) ≤ p.t13 ∧ p.t13 < (↑p.t1.length : Int) then
            some (p.t1[p.t13.toNat]!)
          else
            none
        else
          some (false) with
        | none =>
          none
        | some r1 =>
          bif r1 then
            if (0 : Int) ≤ p.b1.fPending[p.t13.toNat]!.fAt ∧ p.b1.fPending[p.t13.toNat]!.fAt < (↑p.b1.fDurable.length : Int) then
              if 24 = 24 ∧ p.b1.fPending[p.t13.toNat]!.fAt.toNat < p.b1.fDurable.length then
                some (some (L28_0.mk p.t1 p.b1.fPending p.t12 (IntKind.i64.wrap (p.t13 + 1)) (Disk.mk [] [] p.b0.fLeft p.b0.fDown) (Disk.mk (p.b1.fDurable.set p.b1.fPending[p.t13.toNat]!.fAt.toNat p.b1.fPending[p.t13.toNat]!.fData) p.b1.fPending p.b1.fLeft p.b1.fDown)))
              else
                none
            else
              none
          else
            some (some (L28_0.mk p.t1 p.b1.fPending p.t12 (IntKind.i64.wrap (p.t13 + 1)) (Disk.mk [] [] p.b0.fLeft p.b0.fDown) p.b1))
      else
        none
    else
      none
  else
    some (none)
theorem q28_0 (p : L28_0) : execA Try.prog (F28) Try.f28.ntmps 300 (loopAt Try.f28 0) (.two .no (.two .no (.two (.two .no (.two (.rb [] 27) .no)) .no))) (Option L28_0) (pt28_0 p) (kOn rd28_0) = n28_0 p := by kernel_rfl
noncomputable def a28_0 : L28_0 → Option L28_0 := advG (n28_0)
abbrev E28 : Type := Disk
abbrev P28_e : Type := (Unit × Unit) × (Disk × Unit)
noncomputable def rb28_e : St → Option P28_e := stR 1 (slC 4 (asP 0 0) slN) (rsN2 0 63 (asCs 63) rsN)
noncomputable def pb28_e : P28_e → St := stP 1 (fun z => [(4, .ptr 0 0)]) (fun z => [(0, .box 63 (uni.cells 63 z.1))])
noncomputable def mk28_e (z : P28_e) : E28 := z.2.1
noncomputable def pt28_e (x : E28) : St := pb28_e (((), ()), (x, ()))
noncomputable def rd28_e : St → Option E28 := rdC 0 [] [4] (rdF (frzC 0 0 []) (rdC 0 [] [4] (rdM mk28_e rb28_e)))
theorem rb28_e_ok (n : Nat) : RdOk 0 n rb28_e pb28_e := stR_ok (.cons (.p 0 0) .nil) (.boxN (PkN.parse 63) .nil)
theorem rd28_e_ok (n : Nat) : RdOk 0 n rd28_e pt28_e := rdC_ok (rdF_ok (.fc 0 0 []) (rdC_ok ((rb28_e_ok n).m mk28_e (pat' := pt28_e) fun _ => rfl)))
noncomputable def an28 : An := (.two .no (.two .no (.two (.two .no (.lp L28_0 rd28_0 pt28_0 a28_0 (.two .no (.two .no (.two (.two .no (.two (.rb [] 27) .no)) .no))))) .no)))
theorem pu28  : ∀ f ∈ ([] : List Nat), PureF (F28) f := fun f hf => by
  cases hf
theorem fa28 : FnAn Try.prog (F28) 0 300 28 (an28) := fnAn_of (l := [(loopAt Try.f28 0, (.lp L28_0 rd28_0 pt28_0 a28_0 (.two .no (.two .no (.two (.two .no (.two (.rb [] 27) .no)) .no))))), (.skip, (.rb [] 27))]) Try.func28 (bodyOf_eq (by kernel_rfl)) (by kernel_rfl) fun p hp => by
  simp only [List.mem_cons, List.not_mem_nil, or_false] at hp
  rcases hp with rfl | rfl
  · exact ⟨rd28_0_ok _, advG_ok (q28_0)⟩
  · exact pu28
noncomputable def m28 (a0 : Disk) (a1 : List Bool) : Option E28 :=
  match m51 a0 with
  | none =>
    none
  | some r2 =>
    match a28_0 (L28_0.mk a1 r2.fPending (↑r2.fPending.length : Int) (0) (Disk.mk [] [] (0) false) r2) with
    | none =>
      none
    | some r3 =>
      bif decide (r3.t13 < r3.t12) then
        if (0 : Int) ≤ r3.t13 ∧ r3.t13 < (↑r3.b1.fPending.length : Int) then
          if 90 = 90 ∧ r3.t13.toNat < r3.b1.fPending.length then
            match bif decide (r3.t13 < (↑r3.t1.length : Int)) then
              if (0 : Int) ≤ r3.t13 ∧ r3.t13 < (↑r3.t1.length : Int) then
                some (r3.t1[r3.t13.toNat]!)
              else
                none
            else
              some (false) with
            | none =>
              none
            | some r4 =>
              bif r4 then
                if (0 : Int) ≤ r3.b1.fPending[r3.t13.toNat]!.fAt ∧ r3.b1.fPending[r3.t13.toNat]!.fAt < (↑r3.b1.fDurable.length : Int) then
                  if 24 = 24 ∧ r3.b1.fPending[r3.t13.toNat]!.fAt.toNat < r3.b1.fDurable.length then
                    none
                  else
                    none
                else
                  none
              else
                none
          else
            none
        else
          none
      else
        some (Disk.mk r3.b1.fDurable [] (-1) false)
theorem c28 (a0 : Disk) (a1 : List Bool) : callR Try.prog (F28) 300 (an28) 28 [.agg (uni.cells 63 a0), .sl 4 a1] [] 0 rd28_e = m28 a0 a1 := by kernel_rfl
noncomputable def o28 (x : E28) : Out := match (match outOf Try.prog 28 (pt28_e x) with
    | some ds => some (Out.mk (resA ds) (keepR (pt28_e x).R 0 (resA ds)) (pt28_e x).nx)
    | none => none) with
  | some o => o
  | none => ⟨.tup [], [], 0⟩
theorem fn28 (a0 : Disk) (a1 : List Bool) (r : E28) (h : m28 a0 a1 = some r) : fnOk Try.prog 28 ∧ FnY Try.prog 28 [.agg (uni.cells 63 a0), .sl 4 a1] [] 0 (o28 r) :=
  fnY_of (p := r) F28_ok (fa28) rd28_e_ok (fun p => by kernel_rfl) (ltd_of (by kernel_rfl)) (rltd_of (by kernel_rfl)) ((c28 a0 a1).trans h)
theorem fnok28 : fnOk Try.prog 28 := ⟨_, Try.func28, by kernel_rfl, by kernel_rfl⟩
noncomputable def e28 (F : Orc) : Orc := orY 28 0 (qy0 (pkC (asGc 63) (pkC (asL 4) pkN))) (fun g => m28 g.1 g.2.1 : (Disk × (List Bool) × Unit) → Option E28) o28 F
theorem e28_ok {F : Orc} (h : OrcG Try.prog F) : OrcG Try.prog (e28 F) := orY_g h fnok28 (qy0_ok (ca := fun g => [.agg (uni.cells 63 g.1), .sl 4 g.2.1]) ((.cons (.g 63) (.cons (.l 4) .nil)) : PkN (pkC (asGc 63) (pkC (asL 4) pkN)) _)) (fun b => by kernel_rfl) (fun g b hb => (fn28 g.1 g.2.1 b hb).2)
theorem e28_skip {F : Orc} {f : Nat} (hne : Nat.beq f 28 = false) (h : PureF F f) : PureF (e28 F) f := orY_skip hne h
/-! ### 22: keyhole/keyholelaw50.play -/
noncomputable def F22 : Orc := (e44 (e28 (e27 (e26 (e25 (e24 or0))))))
theorem F22_ok : OrcG Try.prog F22 := (e44_ok (e28_ok (e27_ok (e26_ok (e25_ok (e24_ok or0_g))))))
structure L22_0 where
  t2 : List Outcome
  t8 : Int
  t9 : Int
  t44 : List GEvent
  t45 : Int
  t46 : Int
  b1 : Head
  b2 : Disk
abbrev P22_0 : Type := (Unit × Unit × Unit × Int × Int × (List GEvent) × Int × Int × Unit) × ((List Outcome) × Head × Disk × Unit)
noncomputable def rb22_0 : St → Option P22_0 := stR 3 (slC 2 (asO 0) (slC 4 (asP 1 0) (slC 5 (asP 2 0) (slC 8 (asI .i64) (slC 9 (asI .i64) (slC 44 (asL 57) (slC 45 (asI .i64) (slC 46 (asI .i64) slN)))))))) (rsR 0 54 (rsN2 1 38 (asCs 38) (rsN2 2 63 (asCs 63) rsN)))
noncomputable def pb22_0 : P22_0 → St := stP 3 (fun z => [(2, .own 0), (4, .ptr 1 0), (5, .ptr 2 0), (8, .n .i64 z.2.2.2.1), (9, .n .i64 z.2.2.2.2.1), (44, .sl 57 z.2.2.2.2.2.1), (45, .n .i64 z.2.2.2.2.2.2.1), (46, .n .i64 z.2.2.2.2.2.2.2.1)]) (fun z => [(0, .row 54 z.1), (1, .box 38 (uni.cells 38 z.2.1)), (2, .box 63 (uni.cells 63 z.2.2.1))])
noncomputable def mk22_0 (z : P22_0) : L22_0 := ⟨z.2.1, z.1.2.2.2.1, z.1.2.2.2.2.1, z.1.2.2.2.2.2.1, z.1.2.2.2.2.2.2.1, z.1.2.2.2.2.2.2.2.1, z.2.2.1, z.2.2.2.1⟩
noncomputable def pt22_0 (x : L22_0) : St := pb22_0 (((), (), (), x.t8, x.t9, x.t44, x.t45, x.t46, ()), (x.t2, x.b1, x.b2, ()))
noncomputable def rd22_0 : St → Option L22_0 := rdC 0 [] [2, 4, 5, 8, 9, 44, 45, 46] (rdF (ownS 2 [] 54) (rdC 0 [] [2, 4, 5, 8, 9, 44, 45, 46] (rdM mk22_0 rb22_0)))
theorem rb22_0_ok (n : Nat) : RdOk 0 n rb22_0 pb22_0 := stR_ok (.cons (.o 0) (.cons (.p 1 0) (.cons (.p 2 0) (.cons (.i .i64) (.cons (.i .i64) (.cons (.l 57) (.cons (.i .i64) (.cons (.i .i64) .nil)))))))) (.row (.boxN (PkN.parse 38) (.boxN (PkN.parse 63) .nil)))
theorem rd22_0_ok (n : Nat) : RdOk 0 n rd22_0 pt22_0 := rdC_ok (rdF_ok (.s 2 [] 54) (rdC_ok ((rb22_0_ok n).m mk22_0 (pat' := pt22_0) fun _ => rfl)))
noncomputable def n22_0 (p : L22_0) : Option (Option L22_0) :=
  bif decide (p.t46 < p.t45) then
    if (0 : Int) ≤ p.t46 ∧ p.t46 < (↑p.t44.length : Int) then
      match m27 (Disk.mk p.b2.fDurable p.b2.fPending (if p.t44[p.t46.toNat]!.fLeft < -1 then -1 else p.t44[p.t46.toNat]!.fLeft) p.b2.fDown) p.t8 p.t9 p.t44[p.t46.toNat]!.fRecords with
      | none =>
        none
      | some r1 =>
        bif decide (r1.snd = 0) then
          match m44 r1.fst with
          | none =>
            none
          | some r2 =>
            bif bif r2 then false else true then
              some (none)
            else
              match bif p.t44[p.t46.toNat]!.fCrash then
                some (true)
              else
                some (decide (r1.snd = 17)) with
              | none =>
                none
              | some r3 =>
                bif r3 then
                  match m28 (Disk.mk r1.fst.fDurable r1.fst.fPending (-1) r1.fst.fDown) p.t44[p.t46.toNat]!.fKeep with
                  | none =>
                    none
                  | some r4 =>
                    match m26 r4 p.b1 with
                    | none =>
                      none
                    | some r5 =>
                      bif bif decide (r5.snd.snd.snd = 0) then false else true then
                        some (none)
                      else
                        if (p.t2 ++ [Outcome.mk r1.snd true r5.snd.fst r5.snd.snd.fst]).length ≤ 1073741824 then
                          some (some (L22_0.mk (p.t2 ++ [Outcome.mk r1.snd true r5.snd.fst r5.snd.snd.fst]) r5.snd.snd.fst (↑r5.snd.fst.length : Int) p.t44 p.t45 (IntKind.i64.wrap (p.t46 + 1)) p.b1 r5.fst))
                        else
                          none
                else
                  if (p.t2 ++ [Outcome.mk r1.snd false [] ((0 : Int))]).length ≤ 1073741824 then
                    some (some (L22_0.mk (p.t2 ++ [Outcome.mk r1.snd false [] (0)]) p.t8 (IntKind.i64.wrap (p.t9 + (↑p.t44[p.t46.toNat]!.fRecords.length : Int))) p.t44 p.t45 (IntKind.i64.wrap (p.t46 + 1)) p.b1 (Disk.mk r1.fst.fDurable r1.fst.fPending (-1) r1.fst.fDown)))
                  else
                    none
        else
          bif decide (r1.snd = 17) then
            match m44 r1.fst with
            | none =>
              none
            | some r6 =>
              bif bif r6 then false else true then
                some (none)
              else
                match bif p.t44[p.t46.toNat]!.fCrash then
                  some (true)
                else
                  some (decide (r1.snd = 17)) with
                | none =>
                  none
                | some r7 =>
                  bif r7 then
                    match m28 (Disk.mk r1.fst.fDurable r1.fst.fPending (-1) r1.fst.fDown) p.t44[p.t46.toNat]!.fKeep with
                    | none =>
                      none
                    | some r8 =>
                      match m26 r8 p.b1 with
                      | none =>
                        none
                      | some r9 =>
                        bif bif decide (r9.snd.snd.snd = 0) then false else true then
                          some (none)
                        else
                          if (p.t2 ++ [Outcome.mk r1.snd true r9.snd.fst r9.snd.snd.fst]).length ≤ 1073741824 then
                            some (some (L22_0.mk (p.t2 ++ [Outcome.mk r1.snd true r9.snd.fst r9.snd.snd.fst]) r9.snd.snd.fst (↑r9.snd.fst.length : Int) p.t44 p.t45 (IntKind.i64.wrap (p.t46 + 1)) p.b1 r9.fst))
                          else
                            none
                  else
                    if (p.t2 ++ [Outcome.mk r1.snd false [] ((0 : Int))]).length ≤ 1073741824 then
                      some (some (L22_0.mk (p.t2 ++ [Outcome.mk r1.snd false [] (0)]) p.t8 p.t9 p.t44 p.t45 (IntKind.i64.wrap (p.t46 + 1)) p.b1 (Disk.mk r1.fst.fDurable r1.fst.fPending (-1) r1.fst.fDown)))
                    else
                      none
          else
            bif decide (r1.snd = 16) then
              match m44 (Disk.mk p.b2.fDurable p.b2.fPending (if p.t44[p.t46.toNat]!.fLeft < -1 then -1 else p.t44[p.t46.toNat]!.fLeft) p.b2.fDown) with
              | none =>
                none
              | some r10 =>
                bif bif r10 then false else true then
                  some (none)
                else
                  match bif p.t44[p.t46.toNat]!.fCrash then
                    some (true)
                  else
                    some (decide (r1.snd = 17)) with
                  | none =>
                    none
                  | some r11 =>
                    bif r11 then
                      match m28 (Disk.mk p.b2.fDurable p.b2.fPending (-1) p.b2.fDown) p.t44[p.t46.toNat]!.fKeep with
                      | none =>
                        none
                      | some r12 =>
                        match m26 r12 p.b1 with
                        | none =>
                          none
                        | some r13 =>
                          bif bif decide (r13.snd.snd.snd = 0) then false else true then
                            some (none)
                          else
                            if (p.t2 ++ [Outcome.mk r1.snd true r13.snd.fst r13.snd.snd.fst]).length ≤ 1073741824 then
                              some (some (L22_0.mk (p.t2 ++ [Outcome.mk r1.snd true r13.snd.fst r13.snd.snd.fst]) r13.snd.snd.fst (↑r13.snd.fst.length : Int) p.t44 p.t45 (IntKind.i64.wrap (p.t46 + 1)) p.b1 r13.fst))
                            else
                              none
                    else
                      if (p.t2 ++ [Outcome.mk r1.snd false [] ((0 : Int))]).length ≤ 1073741824 then
                        some (some (L22_0.mk (p.t2 ++ [Outcome.mk r1.snd false [] (0)]) p.t8 p.t9 p.t44 p.t45 (IntKind.i64.wrap (p.t46 + 1)) p.b1 (Disk.mk p.b2.fDurable p.b2.fPending (-1) p.b2.fDown)))
                      else
                        none
            else
              some (none)
    else
      none
  else
    some (none)
theorem q22_0 (p : L22_0) : execA Try.prog (F22) Try.f22.ntmps 300 (loopAt Try.f22 0) (.two .no (.two .no (.two (.two .no (.two .no (.two .no (.two .no (.two .no (.two .no (.two .no (.two (.two (.rb [] 88) .no) .no)))))))) .no))) (Option L22_0) (pt22_0 p) (kOn rd22_0) = n22_0 p := by kernel_rfl
noncomputable def a22_0 : L22_0 → Option L22_0 := advG (n22_0)
abbrev E22 : Type := (List Outcome) × Bool
abbrev P22_e : Type := (Unit × Bool × Unit) × ((List Outcome) × Unit)
noncomputable def rb22_e : St → Option P22_e := stR 1 (slC 2 (asO 0) (slC 3 asB slN)) (rsR 0 54 rsN)
noncomputable def pb22_e : P22_e → St := stP 1 (fun z => [(2, .own 0), (3, .b z.2.1)]) (fun z => [(0, .row 54 z.1)])
noncomputable def mk22_e (z : P22_e) : E22 := (z.2.1, z.1.2.1)
noncomputable def pt22_e (x : E22) : St := pb22_e (((), x.2, ()), (x.1, ()))
noncomputable def rd22_e : St → Option E22 := rdC 0 [] [2, 3] (rdF (ownS 2 [] 54) (rdC 0 [] [2, 3] (rdM mk22_e rb22_e)))
theorem rb22_e_ok (n : Nat) : RdOk 0 n rb22_e pb22_e := stR_ok (.cons (.o 0) (.cons .b .nil)) (.row .nil)
theorem rd22_e_ok (n : Nat) : RdOk 0 n rd22_e pt22_e := rdC_ok (rdF_ok (.s 2 [] 54) (rdC_ok ((rb22_e_ok n).m mk22_e (pat' := pt22_e) fun _ => rfl)))
noncomputable def an22 : An := (.two .no (.two .no (.two .no (.two .no (.two .no (.two (.two (.rb [] 43) .no) (.two .no (.two (.two .no (.lp L22_0 rd22_0 pt22_0 a22_0 (.two .no (.two .no (.two (.two .no (.two .no (.two .no (.two .no (.two .no (.two .no (.two .no (.two (.two (.rb [] 88) .no) .no)))))))) .no))))) .no))))))))
theorem pu22  : ∀ f ∈ ([] : List Nat), PureF (F22) f := fun f hf => by
  cases hf
theorem fa22 : FnAn Try.prog (F22) 0 300 22 (an22) := fnAn_of (l := [(.skip, (.rb [] 43)), (loopAt Try.f22 0, (.lp L22_0 rd22_0 pt22_0 a22_0 (.two .no (.two .no (.two (.two .no (.two .no (.two .no (.two .no (.two .no (.two .no (.two .no (.two (.two (.rb [] 88) .no) .no)))))))) .no))))), (.skip, (.rb [] 88))]) Try.func22 (bodyOf_eq (by kernel_rfl)) (by kernel_rfl) fun p hp => by
  simp only [List.mem_cons, List.not_mem_nil, or_false] at hp
  rcases hp with rfl | rfl | rfl
  · exact pu22
  · exact ⟨rd22_0_ok _, advG_ok (q22_0)⟩
  · exact pu22
noncomputable def m22 (a0 : List GEvent) : Option E22 :=
  match m25 (12) with
  | none =>
    none
  | some r14 =>
    match m24 r14 (Head.mk (1) [16]) with
    | none =>
      none
    | some r15 =>
      bif bif decide (r15.snd = 0) then false else true then
        some (([], false))
      else
        match m26 r15.fst (Head.mk (1) [16]) with
        | none =>
          none
        | some r16 =>
          match bif bif decide (r16.snd.snd.snd = 0) then false else true then
            some (true)
          else
            bif bif decide ((↑r16.snd.fst.length : Int) = 0) then false else true then
              some (true)
            else
              some (bif decide (r16.snd.snd.fst = 1) then false else true) with
          | none =>
            none
          | some r17 =>
            bif r17 then
              some (([], false))
            else
              match a22_0 (L22_0.mk [] r16.snd.snd.fst (0) a0 (↑a0.length : Int) (0) (Head.mk (1) [16]) r16.fst) with
              | none =>
                none
              | some r18 =>
                bif decide (r18.t46 < r18.t45) then
                  if (0 : Int) ≤ r18.t46 ∧ r18.t46 < (↑r18.t44.length : Int) then
                    match m27 (Disk.mk r18.b2.fDurable r18.b2.fPending (if r18.t44[r18.t46.toNat]!.fLeft < -1 then -1 else r18.t44[r18.t46.toNat]!.fLeft) r18.b2.fDown) r18.t8 r18.t9 r18.t44[r18.t46.toNat]!.fRecords with
                    | none =>
                      none
                    | some r19 =>
                      bif decide (r19.snd = 0) then
                        match m44 r19.fst with
                        | none =>
                          none
                        | some r20 =>
                          bif bif r20 then false else true then
                            some (([], false))
                          else
                            match bif r18.t44[r18.t46.toNat]!.fCrash then
                              some (true)
                            else
                              some (decide (r19.snd = 17)) with
                            | none =>
                              none
                            | some r21 =>
                              bif r21 then
                                match m28 (Disk.mk r19.fst.fDurable r19.fst.fPending (-1) r19.fst.fDown) r18.t44[r18.t46.toNat]!.fKeep with
                                | none =>
                                  none
                                | some r22 =>
                                  match m26 r22 r18.b1 with
                                  | none =>
                                    none
                                  | some r23 =>
                                    bif bif decide (r23.snd.snd.snd = 0) then false else true then
                                      some (([], false))
                                    else
                                      if (r18.t2 ++ [Outcome.mk r19.snd true r23.snd.fst r23.snd.snd.fst]).length ≤ 1073741824 then
                                        none
                                      else
                                        none
                              else
                                if (r18.t2 ++ [Outcome.mk r19.snd false [] ((0 : Int))]).length ≤ 1073741824 then
                                  none
                                else
                                  none
                      else
                        bif decide (r19.snd = 17) then
                          match m44 r19.fst with
                          | none =>
                            none
                          | some r24 =>
                            bif bif r24 then false else true then
                              some (([], false))
                            else
                              match bif r18.t44[r18.t46.toNat]!.fCrash then
                                some (true)
                              else
                                some (decide (r19.snd = 17)) with
                              | none =>
                                none
                              | some r25 =>
                                bif r25 then
                                  match m28 (Disk.mk r19.fst.fDurable r19.fst.fPending (-1) r19.fst.fDown) r18.t44[r18.t46.toNat]!.fKeep with
                                  | none =>
                                    none
                                  | some r26 =>
                                    match m26 r26 r18.b1 with
                                    | none =>
                                      none
                                    | some r27 =>
                                      bif bif decide (r27.snd.snd.snd = 0) then false else true then
                                        some (([], false))
                                      else
                                        if (r18.t2 ++ [Outcome.mk r19.snd true r27.snd.fst r27.snd.snd.fst]).length ≤ 1073741824 then
                                          none
                                        else
                                          none
                                else
                                  if (r18.t2 ++ [Outcome.mk r19.snd false [] ((0 : Int))]).length ≤ 1073741824 then
                                    none
                                  else
                                    none
                        else
                          bif decide (r19.snd = 16) then
                            match m44 (Disk.mk r18.b2.fDurable r18.b2.fPending (if r18.t44[r18.t46.toNat]!.fLeft < -1 then -1 else r18.t44[r18.t46.toNat]!.fLeft) r18.b2.fDown) with
                            | none =>
                              none
                            | some r28 =>
                              bif bif r28 then false else true then
                                some (([], false))
                              else
                                match bif r18.t44[r18.t46.toNat]!.fCrash then
                                  some (true)
                                else
                                  some (decide (r19.snd = 17)) with
                                | none =>
                                  none
                                | some r29 =>
                                  bif r29 then
                                    match m28 (Disk.mk r18.b2.fDurable r18.b2.fPending (-1) r18.b2.fDown) r18.t44[r18.t46.toNat]!.fKeep with
                                    | none =>
                                      none
                                    | some r30 =>
                                      match m26 r30 r18.b1 with
                                      | none =>
                                        none
                                      | some r31 =>
                                        bif bif decide (r31.snd.snd.snd = 0) then false else true then
                                          some (([], false))
                                        else
                                          if (r18.t2 ++ [Outcome.mk r19.snd true r31.snd.fst r31.snd.snd.fst]).length ≤ 1073741824 then
                                            none
                                          else
                                            none
                                  else
                                    if (r18.t2 ++ [Outcome.mk r19.snd false [] ((0 : Int))]).length ≤ 1073741824 then
                                      none
                                    else
                                      none
                          else
                            some (([], false))
                  else
                    none
                else
                  some ((r18.t2, true))
theorem c22 (a0 : List GEvent) : callR Try.prog (F22) 300 (an22) 22 [.sl 57 a0] [] 0 rd22_e = m22 a0 := by kernel_rfl
noncomputable def o22 (x : E22) : Out := match (match outOf Try.prog 22 (pt22_e x) with
    | some ds => some (Out.mk (resA ds) (keepR (pt22_e x).R 0 (resA ds)) (pt22_e x).nx)
    | none => none) with
  | some o => o
  | none => ⟨.tup [], [], 0⟩
theorem fn22 (a0 : List GEvent) (r : E22) (h : m22 a0 = some r) : fnOk Try.prog 22 ∧ FnY Try.prog 22 [.sl 57 a0] [] 0 (o22 r) :=
  fnY_of (p := r) F22_ok (fa22) rd22_e_ok (fun p => by kernel_rfl) (ltd_of (by kernel_rfl)) (rltd_of (by kernel_rfl)) ((c22 a0).trans h)
theorem fnok22 : fnOk Try.prog 22 := ⟨_, Try.func22, by kernel_rfl, by kernel_rfl⟩
noncomputable def e22 (F : Orc) : Orc := orY 22 0 (qy0 (pkC (asL 57) pkN)) (fun g => m22 g.1 : ((List GEvent) × Unit) → Option E22) o22 F
theorem e22_ok {F : Orc} (h : OrcG Try.prog F) : OrcG Try.prog (e22 F) := orY_g h fnok22 (qy0_ok (ca := fun g => [.sl 57 g.1]) ((.cons (.l 57) .nil) : PkN (pkC (asL 57) pkN) _)) (fun b => by kernel_rfl) (fun g b hb => (fn22 g.1 b hb).2)
theorem e22_skip {F : Orc} {f : Nat} (hne : Nat.beq f 22 = false) (h : PureF F f) : PureF (e22 F) f := orY_skip hne h
end S
end Go.Proofs.Ytgdahkddhecloaa
end
section
set_option linter.unusedSectionVars false
set_option linter.unusedVariables false
set_option linter.unusedSimpArgs false
namespace Go.Proofs.YtgdahkddhecloaaD
open Go Go.RowKit Go.Ab Go.Proofs

/-! ### loops -/
theorem w64_succ {i len : Nat} (hl : len ≤ 9223372036854775807) (h : i < len) : w64 ((i : Int) + 1) = ((i + 1 : Nat) : Int) := by
  rw [w64_eq (by omega)]; omega

theorem srch {γ : Type} (len : Nat) (hl : len ≤ 9223372036854775807) (bad : Nat → Bool) (g : Int → γ) (F : Nat → Int → Option (Sum Unit γ))
    (h : ∀ k (i : Nat), i ≤ len → F (k + 1) (i : Int) = if i < len then (if bad i = true then some (.inr (g i)) else F k (w64 ((i : Int) + 1))) else some (.inl ())) :
    ((∀ i, i < len → bad i = false) ∧ F (len + 1) 0 = some (.inl ())) ∨ (∃ i, i < len ∧ bad i = true ∧ F (len + 1) 0 = some (.inr (g i))) := by
  have key : ∀ (k i : Nat), i ≤ len → len - i < k → (∀ j, j < i → bad j = false) →
      ((∀ i, i < len → bad i = false) ∧ F k i = some (.inl ())) ∨ (∃ i', i' < len ∧ bad i' = true ∧ F k i = some (.inr (g i'))) := by
    intro k
    induction k with
    | zero => intro i _ hk; omega
    | succ k ih =>
      intro i hi hk hb
      rw [h k i hi]
      by_cases hlt : i < len
      · rw [if_pos hlt]
        by_cases hx : bad i = true
        · rw [if_pos hx]
          exact .inr ⟨i, hlt, hx, rfl⟩
        · rw [if_neg hx, w64_succ hl hlt]
          refine ih (i + 1) hlt (by omega) fun j hj => ?_
          by_cases hji : j = i
          · subst hji; simpa using hx
          · exact hb j (by omega)
      · rw [if_neg hlt]
        exact .inl ⟨fun j hj => hb j (by omega), rfl⟩
  exact key (len + 1) 0 (Nat.zero_le _) (by omega) (fun j hj => by omega)

theorem foldl {β : Type} (len : Nat) (hl : len ≤ 9223372036854775807) (step : Nat → β → Option β) (F : Nat → β → Int → Option β) (b : β)
    (h : ∀ k b (i : Nat), i ≤ len → F (k + 1) b (i : Int) = if i < len then (step i b).bind (fun b' => F k b' (w64 ((i : Int) + 1))) else some b) (Inv : Nat → β → Prop) (h0 : Inv 0 b)
    (hs : ∀ i b, i < len → Inv i b → ∃ b', step i b = some b' ∧ Inv (i + 1) b') : ∃ b', F (len + 1) b 0 = some b' ∧ Inv len b' := by
  have key : ∀ (k i : Nat) b, i ≤ len → len - i < k → Inv i b → ∃ b', F k b i = some b' ∧ Inv len b' := by
    intro k
    induction k with
    | zero => intro i b _ hk; omega
    | succ k ih =>
      intro i b hi hk hb
      rw [h k b i hi]
      by_cases hlt : i < len
      · rw [if_pos hlt]
        obtain ⟨b', h1, h2⟩ := hs i b hlt hb
        rw [h1, Option.bind_some, w64_succ hl hlt]
        exact ih (i + 1) b' hlt (by omega) h2
      · rw [if_neg hlt]
        obtain rfl : i = len := by omega
        exact ⟨b, rfl, hb⟩
  exact key (len + 1) 0 b (Nat.zero_le _) (by omega) h0

theorem notT {b : Bool} (h : (!b) = true) : b = false := by cases b <;> simp_all
theorem notF {b : Bool} (h : (!b) = false) : b = true := by cases b <;> simp_all
abbrev big : Nat := 9223372036854775807

/-! ### Valid -/
def V (d : Disk) : Bool := decide (1 ≤ d.fDurable.length) && decide (d.fDurable.length ≤ 4096) && decide (d.fPending.length ≤ 8192) && d.fDurable.all (fun b => decide (b.length = 96)) && d.fPending.all (fun w => decide (0 ≤ w.fAt) && decide (w.fAt < (d.fDurable.length : Int)) && decide (w.fData.length = 96))

theorem all_of {α : Type} [Inhabited α] (l : List α) (p : α → Bool) (h : ∀ i, i < l.length → p l[i]! = true) : l.all p = true := by
  rw [List.all_eq_true]
  intro x hx
  obtain ⟨i, hi, rfl⟩ := List.getElem_of_mem hx
  have := h i hi
  rwa [getElem!_pos l i hi] at this
theorem all_not {α : Type} [Inhabited α] (l : List α) (p : α → Bool) {i : Nat} (hi : i < l.length) (h : p l[i]! = false) : l.all p = false := by
  rw [List.all_eq_false]
  exact ⟨l[i], List.getElem_mem _, by rw [getElem!_pos l i hi] at h; simp [h]⟩
theorem all_get {α : Type} [Inhabited α] {l : List α} {p : α → Bool} (h : l.all p = true) {i : Nat} (hi : i < l.length) : p l[i]! = true := by
  rw [getElem!_pos l i hi]
  exact List.all_eq_true.1 h _ (List.getElem_mem _)

theorem m54_eq (l : List (List Int)) (hl : l.length ≤ big) : m54 l = some (!l.all (fun b => decide (b.length = 96))) := by
  have h := srch l.length hl (fun i => !decide (l[i]!.length = 96)) (fun n => n) (m64_l1 l) (fun k i hi => by
    rw [m64_l1]
    by_cases hlt : i < l.length
    · simp [hlt, m55, m53]
      by_cases hx : l[i].length = 96 <;> simp [hx] <;> omega
    · simp [hlt])
  unfold m54 m64
  rw [Int.toNat_natCast]
  rcases h with ⟨h1, h2⟩ | ⟨i, hi, h1, h2⟩
  · rw [h2, all_of l _ (fun i hi => notF (h1 i hi))]
    rfl
  · rw [h2, all_not l _ hi (by simpa using h1)]
    simp

theorem m57_eq (w : Write) (n : Int) : m57 w n = some (!(decide (0 ≤ w.fAt) && decide (w.fAt < n) && decide (w.fData.length = 96))) := by
  unfold m57 m53
  by_cases h1 : w.fAt < 0
  · simp [h1] <;> omega
  · by_cases h2 : n ≤ w.fAt
    · simp [h1, h2] <;> omega
    · by_cases h3 : w.fData.length = 96
      · simp [h1, h2, h3] <;> omega
      · simp [h1, h2, h3] <;> omega

theorem m56_eq (l : List Write) (n : Int) (hl : l.length ≤ big) : m56 l n = some (!l.all (fun w => decide (0 ≤ w.fAt) && decide (w.fAt < n) && decide (w.fData.length = 96))) := by
  have h := srch l.length hl (fun i => !(decide (0 ≤ l[i]!.fAt) && decide (l[i]!.fAt < n) && decide (l[i]!.fData.length = 96))) (fun n => n) (m65_l1 l n) (fun k i hi => by
    rw [m65_l1]
    by_cases hlt : i < l.length
    · rw [if_pos (by simpa using hlt), if_pos (by omega), m57_eq, Option.bind_some, if_pos hlt, Int.toNat_natCast]
    · simp [hlt])
  unfold m56 m65
  rw [Int.toNat_natCast]
  rcases h with ⟨h1, h2⟩ | ⟨i, hi, h1, h2⟩
  · rw [h2, all_of l _ (fun i hi => notF (h1 i hi))]
    rfl
  · rw [h2, all_not l _ hi (notT h1)]
    simp

theorem m45_eq (d : Disk) (h1 : d.fDurable.length ≤ big) (h2 : d.fPending.length ≤ big) : m45 d = some (V d) := by
  unfold m45 V
  rw [m54_eq _ h1, m56_eq _ _ h2]
  by_cases q1 : d.fDurable.length = 0
  · simp [q1]
  · by_cases q2 : d.fDurable.length ≤ 4096
    · by_cases q3 : d.fPending.length ≤ 8192
      · have e1 : ¬ ((d.fDurable.length : Int) < 1) := by omega
        have e2 : ¬ ((4096 : Int) < (d.fDurable.length : Int)) := by omega
        have e3 : ¬ ((8192 : Int) < (d.fPending.length : Int)) := by omega
        have e4 : 1 ≤ d.fDurable.length := by omega
        simp only [decide_eq_true_eq, e1, e2, e3, if_false, Option.bind_some, decide_false, Bool.false_eq_true, q2, q3, e4, decide_true, Bool.true_and]
        cases d.fDurable.all (fun b => decide (b.length = 96)) <;> simp
      · have e3 : (8192 : Int) < (d.fPending.length : Int) := by omega
        have e1 : ¬ ((d.fDurable.length : Int) < 1) := by omega
        have e2 : ¬ ((4096 : Int) < (d.fDurable.length : Int)) := by omega
        simp [q3, e1, e2, e3]
    · have e2 : (4096 : Int) < (d.fDurable.length : Int) := by omega
      have e1 : ¬ ((d.fDurable.length : Int) < 1) := by omega
      simp [q2, e1, e2]

theorem m60_eq {l : List Int} (h : l.length ≤ 1073741824) : m60 l = some l := by simp [m60, h]
/-- a disk whose copy is within bounds -/
structure Small (d : Disk) : Prop where
  du : d.fDurable.length ≤ 1073741824
  pe : d.fPending.length ≤ 1073741824
  db : ∀ i, i < d.fDurable.length → d.fDurable[i]!.length ≤ 1073741824
  pb : ∀ i, i < d.fPending.length → d.fPending[i]!.fData.length ≤ 1073741824

theorem take_get {α : Type} [Inhabited α] (l : List α) {i : Nat} (h : i < l.length) : l.take (i + 1) = l.take i ++ [l[i]!] := by
  rw [List.take_add_one, List.getElem?_eq_getElem h, getElem!_pos l i h]
  rfl

theorem small_of_V {d : Disk} (h : V d = true) : Small d := by
  unfold V at h
  simp only [Bool.and_eq_true, decide_eq_true_eq] at h
  obtain ⟨⟨⟨⟨h1, h2⟩, h3⟩, h4⟩, h5⟩ := h
  refine ⟨by omega, by omega, fun i hi => ?_, fun i hi => ?_⟩
  · have := all_get h4 hi
    simp only [decide_eq_true_eq] at this
    omega
  · have := all_get h5 hi
    simp only [Bool.and_eq_true, decide_eq_true_eq] at this
    omega

theorem copy_loop {α : Type} [Inhabited α] (l : List α) (hl : l.length ≤ 1073741824) (F : Nat → List α → Int → Option (List α)) (clone : α → Option α) (hc : ∀ i, i < l.length → clone l[i]! = some l[i]!)
    (h : ∀ k b (i : Nat), i ≤ l.length → F (k + 1) b (i : Int) = if i < l.length then ((clone l[i]!).bind fun x => if (b ++ [x]).length ≤ 1073741824 then some (b ++ [x]) else none).bind (fun b' => F k b' (w64 ((i : Int) + 1))) else some b) : F (l.length + 1) [] 0 = some l := by
  obtain ⟨b, h1, h2⟩ := foldl l.length (by omega) (fun i b => (clone l[i]!).bind fun x => if (b ++ [x]).length ≤ 1073741824 then some (b ++ [x]) else none) F [] h (fun i b => b = l.take i) rfl (fun i b hi hb => by
    subst hb
    refine ⟨l.take (i + 1), ?_, rfl⟩
    rw [hc i hi, Option.bind_some, take_get l hi, if_pos]
    rw [List.length_append, List.length_take]
    simp
    omega)
  rw [h1, h2, List.take_of_length_le (Nat.le_refl _)]

theorem m58_1_eq {d : Disk} (h : Small d) : m58_1 d = some d := by
  unfold m58_1
  rw [Int.toNat_natCast, Int.toNat_natCast]
  rw [copy_loop d.fDurable h.du (m58_1_l1 d) m60 (fun i hi => m60_eq (h.db i hi)) (fun k b i hi => by
    rw [m58_1_l1]
    by_cases hlt : i < d.fDurable.length
    · rw [if_pos (by simpa using hlt), if_pos (by omega), if_pos hlt, Int.toNat_natCast]
    · rw [if_neg (by simpa using hlt), if_neg hlt])]
  rw [copy_loop d.fPending h.pe (m58_1_l2 d) (fun w => (m60 w.fData).bind fun x => some ⟨w.fAt, x⟩) (fun i hi => by rw [m60_eq (h.pb i hi)]; rfl) (fun k b i hi => by
    rw [m58_1_l2]
    by_cases hlt : i < d.fPending.length
    · rw [if_pos (by simpa using hlt), if_pos (by omega), if_pos hlt, Int.toNat_natCast]
      cases m60 d.fPending[i]!.fData <;> rfl
    · rw [if_neg (by simpa using hlt), if_neg hlt])]
  rfl

theorem at_of_V {d : Disk} (h : V d = true) {i : Nat} (hi : i < d.fPending.length) : 0 ≤ d.fPending[i]!.fAt ∧ d.fPending[i]!.fAt < (d.fDurable.length : Int) := by
  unfold V at h
  simp only [Bool.and_eq_true, decide_eq_true_eq] at h
  have := all_get h.2 hi
  simp only [Bool.and_eq_true, decide_eq_true_eq] at this
  exact this.1


/-- what is left of the power after an operation -/
def less (n : Int) : Int := if (0 : Int) < n then w64 (n - 1) else n
/-- the durable sectors after writes -/
def app (l : List (List Int)) (ws : List Write) : List (List Int) := ws.foldl (fun l w => l.set w.fAt.toNat w.fData) l
theorem app_len (ws : List Write) : ∀ l, (app l ws).length = l.length := by
  induction ws with
  | nil => intro l; rfl
  | cons w ws ih => intro l; show (app (l.set _ _) ws).length = _; rw [ih, List.length_set]
theorem m47_l1_eq {d : Disk} (h : V d = true) (n : Int) (c : Bool) : m47_l1 d n c (d.fPending.length + 1) d.fDurable 0 = some (app d.fDurable d.fPending) := by
  have hs := small_of_V h
  obtain ⟨b, h1, h2, _⟩ := foldl d.fPending.length (by have := hs.pe; omega) (fun i b => if 0 ≤ d.fPending[i]!.fAt ∧ d.fPending[i]!.fAt < (b.length : Int) then some (b.set (Int.toNat d.fPending[i]!.fAt) d.fPending[i]!.fData) else none) (m47_l1 d n c) d.fDurable (fun k b i hi => by
    rw [m47_l1]
    by_cases hlt : i < d.fPending.length
    · rw [if_pos (by simpa using hlt), if_pos (by omega), if_pos hlt, Int.toNat_natCast]
      unfold m61_1
      split <;> rfl
    · rw [if_neg (by simpa using hlt), if_neg hlt]) (fun i b => b = app d.fDurable (d.fPending.take i) ∧ b.length = d.fDurable.length) ⟨rfl, rfl⟩ (fun i b hi hb => by
    have := at_of_V h hi
    refine ⟨_, if_pos (by rw [hb.2]; exact this), ?_, by rw [List.length_set]; exact hb.2⟩
    rw [take_get _ hi, app, List.foldl_append, hb.1]
    rfl)
  rw [h1, h2, List.take_of_length_le (Nat.le_refl _)]
theorem m47_eq (d : Disk) (h : V d = true) : m47 d = some (if d.fDown = true then (d, 17) else if d.fLeft = 0 then (⟨d.fDurable, d.fPending, d.fLeft, true⟩, 17) else (⟨app d.fDurable d.fPending, [], less d.fLeft, d.fDown⟩, 0)) := by
  have hs := small_of_V h
  unfold m47
  rw [m45_eq d (by have := hs.du; show _ ≤ 9223372036854775807; omega) (by have := hs.pe; show _ ≤ 9223372036854775807; omega), h]
  simp only [Option.bind_some, Bool.not_true, Bool.false_eq_true, if_false]
  rw [m58_1_eq hs]
  simp only [Option.bind_some]
  by_cases hd : d.fDown = true
  · rw [if_pos hd, if_pos hd]; rfl
  · rw [if_neg hd, if_neg hd]
    unfold m59_1
    by_cases h0 : d.fLeft = 0
    · simp [h0]
    · have hd' : d.fDown = false := by simpa using hd
      by_cases hp : (0 : Int) < d.fLeft
      · simp [h0, hp, m47_l1_eq h, less]
      · simp [h0, hp, m47_l1_eq h, less]
theorem m46_eq (d : Disk) (h : V d = true) (n : Int) (p : List Int) (h1 : 0 ≤ n) (h2 : n < d.fDurable.length) (h3 : p.length = 96) (h4 : d.fPending.length < 8192) : m46 d n p = some (if d.fDown = true then (d, 17) else if d.fLeft = 0 then (⟨d.fDurable, d.fPending, d.fLeft, true⟩, 17) else (⟨d.fDurable, d.fPending ++ [⟨n, p⟩], less d.fLeft, d.fDown⟩, 0)) := by
  have hs := small_of_V h
  unfold m46
  rw [m45_eq d (by have := hs.du; show _ ≤ 9223372036854775807; omega) (by have := hs.pe; show _ ≤ 9223372036854775807; omega), h]
  simp only [Option.bind_some, Bool.not_true, Bool.false_eq_true, if_false]
  rw [m58_1_eq hs]
  simp only [Option.bind_some]
  have c1 : ¬ n < 0 := by omega
  have c2 : ¬ (d.fDurable.length : Int) ≤ n := by omega
  have c3 : (p.length : Int) = 96 := by omega
  have c4 : ¬ (d.fPending.length : Int) = 8192 := by omega
  have hl : (d.fPending ++ [(⟨n, p⟩ : Write)]).length ≤ 1073741824 := by rw [List.length_append]; simp; omega
  have e60 : m60 p = some p := m60_eq (by omega)
  by_cases hd : d.fDown = true
  · simp [c1, c2, c3, hd]
  · have hd' : d.fDown = false := by simpa using hd
    unfold m59_1
    by_cases h0 : d.fLeft = 0
    · simp [c1, c2, c3, hd', c4, h0]
    · by_cases hp : (0 : Int) < d.fLeft
      · simp only [c1, c2, c3, hd', c4, h0, hp, e60, decide_true, decide_false, Bool.not_true, Bool.false_eq_true, if_false, if_true, Option.bind_some, if_pos hl, less]
      · simp only [c1, c2, c3, hd', c4, h0, hp, e60, decide_true, decide_false, Bool.not_true, Bool.false_eq_true, if_false, if_true, Option.bind_some, if_pos hl, less]
theorem m48_eq (d : Disk) (h : V d = true) (n : Int) (h1 : 0 ≤ n) (h2 : n < d.fDurable.length) (hd : d.fDown = false) (hp : d.fPending = []) : m48 d n = some (d.fDurable[n.toNat]!, 0) := by
  have hs := small_of_V h
  unfold m48
  rw [m45_eq d (by have := hs.du; show _ ≤ 9223372036854775807; omega) (by have := hs.pe; show _ ≤ 9223372036854775807; omega), h]
  have c1 : ¬ n < 0 := by omega
  have c2 : ¬ (d.fDurable.length : Int) ≤ n := by omega
  have hdl : d.fDurable[n.toNat]!.length ≤ 1073741824 := hs.db _ (by omega)
  simp [c1, c2, hd, hp]
  rw [m60_eq (by simpa using hdl)]; rfl
end Go.Proofs.YtgdahkddhecloaaD
end
section
set_option linter.unusedSectionVars false
set_option linter.unusedVariables false
set_option linter.unusedSimpArgs false
namespace Go.Iv
open Go
variable [U : Uni] [L : UniL]
theorem wrap_id {n : Int} (h1 : -9223372036854775808 ≤ n) (h2 : n < 9223372036854775808) : IntKind.i64.wrap n = n := by
  simp [IntKind.wrap, IntKind.bits, IntKind.signed]
  omega
theorem cond_true' {α : Type} (x y : α) : (bif true then x else y) = x := rfl
/-- A loop over a counter: at i it stands at f i; it goes on while g does not hold. -/
theorem advG_count {γ : Type} {rnd : γ → Option (Option γ)} (f : Nat → γ) (n : Nat) (h1 : ∀ i, i < n → rnd (f i) = some (some (f (i + 1))) ∨ ∀ r, rnd (f i) ≠ some (some r)) (h2 : ∀ r, rnd (f n) ≠ some (some r)) : ∀ k i, i + k = n →
    ∃ j, i ≤ j ∧ j ≤ n ∧ advG rnd (f i) = some (f j) ∧ (∀ m, i ≤ m → m < j → rnd (f m) = some (some (f (m + 1)))) ∧ ∀ r, rnd (f j) ≠ some (some r)
  | 0, i, hi => by
    have : i = n := by omega
    subst this
    exact ⟨i, Nat.le_refl _, Nat.le_refl _, advG_stop h2, fun m h3 h4 => by omega, h2⟩
  | k + 1, i, hi => by
    rcases h1 i (by omega) with h | h
    · obtain ⟨j, q1, q2, q3, q4, q5⟩ := advG_count f n h1 h2 k (i + 1) (by omega)
      refine ⟨j, by omega, q2, by rw [advG_step h]; exact q3, fun m h3 h4 => ?_, q5⟩
      by_cases hm : m = i
      · subst hm; exact h
      · exact q4 m (by omega) h4
    · exact ⟨i, Nat.le_refl _, by omega, advG_stop h, fun m h3 h4 => by omega, h⟩
/-- A loop that runs through. -/
theorem advG_all {γ : Type} {rnd : γ → Option (Option γ)} (f : Nat → γ) (n : Nat) (h1 : ∀ i, i < n → rnd (f i) = some (some (f (i + 1)))) (h2 : ∀ r, rnd (f n) ≠ some (some r)) : advG rnd (f 0) = some (f n) := by
  have key : ∀ k i, i + k = n → advG rnd (f i) = some (f n) := by
    intro k
    induction k with
    | zero => intro i hi; have : i = n := by omega
              subst this; exact advG_stop h2
    | succ k ih => intro i hi; rw [advG_step (h1 i (by omega))]; exact ih (i + 1) (by omega)
  exact key n 0 (by omega)
/-- What a loop over a list comes to. -/
def runL {α β : Type} (step : β → α → Option β) : List α → β → β
  | [], b => b
  | x :: xs, b => match step b x with
    | some b' => runL step xs b'
    | none => b
/-- What comes of it: ret where it is left, fin at the end. -/
def foldE {α β ρ : Type} (step : β → α → Option β) (ret : β → α → ρ) (fin : β → ρ) : List α → β → ρ
  | [], b => fin b
  | x :: xs, b => match step b x with
    | some b' => foldE step ret fin xs b'
    | none => ret b x
/-- A loop over a list: it stands at mk i b, b what was made of the first i. -/
theorem advG_list {γ α β ρ : Type} {rnd : γ → Option (Option γ)} (l : List α) (mk : Nat → β → γ) (step : β → α → Option β) (ret : β → α → ρ) (fin : β → ρ) (I : Nat → β → Prop)
    (h1 : ∀ i b (hi : i < l.length), I i b → ∀ b', step b l[i] = some b' → rnd (mk i b) = some (some (mk (i + 1) b')) ∧ I (i + 1) b')
    (h2 : ∀ i b (hi : i < l.length), I i b → step b l[i] = none → ∀ r, rnd (mk i b) ≠ some (some r)) (h3 : ∀ b, I l.length b → ∀ r, rnd (mk l.length b) ≠ some (some r)) {b : β} (hb : I 0 b) :
    ∃ i v, i ≤ l.length ∧ advG rnd (mk 0 b) = some (mk i v) ∧ I i v ∧ ((i = l.length ∧ foldE step ret fin l b = fin v) ∨ ∃ hi : i < l.length, step v l[i] = none ∧ foldE step ret fin l b = ret v l[i]) := by
  have key : ∀ (xs : List α) (i : Nat) (b : β), l.drop i = xs → i ≤ l.length → I i b → ∃ j v, j ≤ l.length ∧ advG rnd (mk i b) = some (mk j v) ∧ I j v ∧ ((j = l.length ∧ foldE step ret fin xs b = fin v) ∨ ∃ hi : j < l.length, step v l[j] = none ∧ foldE step ret fin xs b = ret v l[j]) := by
    intro xs
    induction xs with
    | nil =>
      intro i b hd hi hb
      have : i = l.length := by have := congrArg List.length hd; simp at this; omega
      subst this
      exact ⟨_, b, Nat.le_refl _, advG_stop (h3 b hb), hb, .inl ⟨rfl, rfl⟩⟩
    | cons x xs ih =>
      intro i b hd hi hb
      have hil : i < l.length := by have := congrArg List.length hd; simp at this; omega
      have hx : l[i] = x := by
        have := congrArg List.head? hd
        rw [List.head?_drop, List.getElem?_eq_getElem hil] at this
        simpa using this
      have hd' : l.drop (i + 1) = xs := by
        have := congrArg List.tail hd
        rw [List.tail_drop] at this
        simpa using this
      cases hs : step b x with
      | some b' =>
        obtain ⟨q1, q2⟩ := h1 i b hil hb b' (by rw [hx]; exact hs)
        obtain ⟨j, v, e1, e2, e3, e4⟩ := ih (i + 1) b' hd' hil q2
        have er : foldE step ret fin (x :: xs) b = foldE step ret fin xs b' := by simp only [foldE, hs]
        exact ⟨j, v, e1, by rw [advG_step q1]; exact e2, e3, by rw [er]; exact e4⟩
      | none =>
        have er : foldE step ret fin (x :: xs) b = ret b x := by simp only [foldE, hs]
        exact ⟨i, b, hi, advG_stop (h2 i b hil hb (by rw [hx]; exact hs)), hb, .inr ⟨hil, by rw [hx]; exact hs, by rw [er, hx]⟩⟩
  exact key l 0 b rfl (Nat.zero_le _) hb
end Go.Iv
end
section
set_option linter.unusedSectionVars false
set_option linter.unusedVariables false
set_option linter.unusedSimpArgs false
namespace Go.Proofs.Ytgdahkddhecloaa
open Go Go.Iv

/-- w bytes of a number, the most significant first -/
def be : Nat → Int → List Int
  | 0, _ => []
  | w + 1, n => IntKind.u8.wrap (bShr .i64 n (8 * w)) :: be w n
theorem be_len : ∀ w n, (be w n).length = w
  | 0, _ => rfl
  | w + 1, n => by simp [be, be_len w n]
theorem a31_eq (t1 n : Int) (t10 : List Int) (t11 t12 : Int) : ∀ (w : Nat) (b : List Int), w ≤ 8 → b.length + w ≤ 1000 → a31_1 ⟨b, t1, n, (w : Int) - 1, t10, t11, t12⟩ = some ⟨b ++ be w n, t1, n, -1, t10, t11, t12⟩
  | 0, b, _, _ => by
    rw [be, List.append_nil]
    exact advG_stop fun r => by simp [n31_1]
  | w + 1, b, hw, hb => by
    have ih := a31_eq t1 n t10 t11 t12 w (b ++ [IntKind.u8.wrap (bShr .i64 n (8 * w))]) (by omega) (by simp; omega)
    have e1 : IntKind.i64.wrap (8 * (((w + 1 : Nat) : Int) - 1)) = 8 * w := by rw [wrap_id (by omega) (by omega)]; omega
    have e2 : IntKind.i64.wrap ((((w + 1 : Nat) : Int) - 1) - 1) = (w : Int) - 1 := by rw [wrap_id (by omega) (by omega)]; omega
    have hs : n31_1 ⟨b, t1, n, ((w + 1 : Nat) : Int) - 1, t10, t11, t12⟩ = some (some ⟨b ++ [IntKind.u8.wrap (bShr .i64 n (8 * w))], t1, n, (w : Int) - 1, t10, t11, t12⟩) := by
      unfold n31_1
      dsimp only
      rw [e1, e2, decide_eq_true (show (0 : Int) ≤ ((w + 1 : Nat) : Int) - 1 by omega), cond_true, if_pos (by omega), if_pos (by simp; omega)]
    have := advG_step hs
    show advG n31_1 _ = _
    rw [this]
    show a31_1 _ = _
    rw [ih, be, List.append_assoc]
    rfl
theorem m31_eq (n : Int) (w : Nat) (b : List Int) (hw : w ≤ 8) (hb : b.length + w ≤ 1000) : m31 w b [n] = some (b ++ be w n, [n]) := by
  have e2 : IntKind.i64.wrap ((w : Int) - 1) = (w : Int) - 1 := wrap_id (by omega) (by omega)
  have e3 : IntKind.i64.wrap (0 + 1) = 1 := wrap_id (by omega) (by omega)
  have hs : n31_0 ⟨b, w, [n], 1, 0⟩ = some (some ⟨b ++ be w n, w, [n], 1, 1⟩) := by
    unfold n31_0
    simp only [List.length_singleton]
    simp [e2, a31_eq _ n _ _ _ w b hw hb]
    exact e3
  have h1 : a31_0 ⟨b, w, [n], 1, 0⟩ = some ⟨b ++ be w n, w, [n], 1, 1⟩ := by
    show advG n31_0 _ = _
    rw [advG_step hs]
    exact advG_stop fun r => by simp [n31_0]
  unfold m31
  have h2 : ((([n] : List Int).length : Nat) : Int) = 1 := rfl
  rw [h2, h1]
  rfl
def pad (b : List Int) : List Int := b ++ List.replicate (96 - b.length) 0
theorem m32_eq (b : List Int) (h : b.length ≤ 96) : m32 b = some (pad b) := by
  have e : IntKind.i64.wrap (96 - (b.length : Int)) = 96 - b.length := wrap_id (by omega) (by omega)
  have e2 : (96 - (b.length : Int)).toNat = 96 - b.length := by omega
  unfold m32 pad
  rw [e, e2, if_pos (by omega), if_pos (by simp; omega)]
/-- the fields -/
abbrev fs (r : Record) : List Int := [r.fEpoch, r.fSeq, r.fSecret, r.fClient, r.fNumber, r.fProgram, r.fPublic, r.fAnswer, r.fCharge]
def enc (r : Record) : List Int := pad ([1] ++ be 4 r.fEpoch ++ be 4 r.fSeq ++ be 4 r.fSecret ++ be 4 r.fClient ++ be 4 r.fNumber ++ be 4 r.fProgram ++ be 4 r.fPublic ++ be 4 r.fAnswer ++ be 4 r.fCharge)
def okF (n : Int) : Bool := decide (0 ≤ n ∧ n ≤ 2147483647)
def okR (r : Record) : Bool := okF r.fEpoch && okF r.fSeq && okF r.fSecret && okF r.fClient && okF r.fNumber && okF r.fProgram && okF r.fPublic && okF r.fAnswer && okF r.fCharge
theorem m30_eq (n : Int) : m30 n = okF n := by
  unfold m30 okF
  by_cases h : 0 ≤ n <;> simp [h]
theorem enc_len (r : Record) : (enc r).length = 96 := by simp [enc, pad, be_len]
theorem m8_eq (r : Record) : m8 r = some (if okR r then (enc r, 0) else ([], 1)) := by
  unfold m8 okR
  simp only [m29, m30_eq]
  have h4 : (4 : Int) = ((4 : Nat) : Int) := rfl
  rw [h4]
  repeat (rw [m31_eq _ 4 _ (by omega) (by simp [be_len])]; dsimp only)
  rw [m32_eq _ (by simp [be_len])]
  cases okF r.fEpoch <;> cases okF r.fSeq <;> cases okF r.fSecret <;> cases okF r.fClient <;> cases okF r.fNumber <;> cases okF r.fProgram <;> cases okF r.fPublic <;> cases okF r.fAnswer <;> cases okF r.fCharge <;> rfl
end Go.Proofs.Ytgdahkddhecloaa
end
section
set_option linter.unusedSectionVars false
set_option linter.unusedVariables false
set_option linter.unusedSimpArgs false
namespace Go.Proofs.Ytgdahkddhecloaa
open Go Go.Iv

theorem bOr_add (t b : Int) (h1 : 0 ≤ t) (h2 : t < 4294967296) (h3 : 0 ≤ b) (h4 : b < 256) : bOr .i64 (bShl .i64 t 8) (IntKind.i64.wrap b) = t * 256 + b := by
  have e1 : bShl .i64 t 8 = t * 256 := by
    unfold bShl
    show IntKind.i64.wrap (t * 2 ^ 8) = _
    rw [wrap_id (by omega) (by omega)]
    omega
  rw [e1, wrap_id (by omega) (by omega)]
  unfold bOr
  obtain ⟨m, rfl⟩ : ∃ m : Nat, t = m := ⟨t.toNat, by omega⟩
  obtain ⟨k, rfl⟩ : ∃ k : Nat, b = k := ⟨b.toNat, by omega⟩
  have hk : k < 256 := by omega
  have hm : m < 4294967296 := by omega
  have : (BitVec.ofInt IntKind.i64.bits ((m : Int) * 256) ||| BitVec.ofInt IntKind.i64.bits (k : Int)).toNat = m * 256 + k := by
    rw [BitVec.toNat_or]
    have q1 : (BitVec.ofInt IntKind.i64.bits ((m : Int) * 256)).toNat = m * 256 := by
      have : ((m : Int) * 256) = ((m * 256 : Nat) : Int) := by omega
      rw [this, BitVec.ofInt_natCast, BitVec.toNat_ofNat]
      exact Nat.mod_eq_of_lt (by show m * 256 < 2 ^ 64; omega)
    have q2 : (BitVec.ofInt IntKind.i64.bits (k : Int)).toNat = k := by
      rw [BitVec.ofInt_natCast, BitVec.toNat_ofNat]
      exact Nat.mod_eq_of_lt (by show k < 2 ^ 64; omega)
    rw [q1, q2]
    have := Nat.shiftLeft_add_eq_or_of_lt (show k < 2 ^ 8 by omega) m
    rw [Nat.shiftLeft_eq] at this
    exact this.symm
  rw [this, wrap_id (by omega) (by omega)]
  omega
/-- a byte of a number -/
theorem byte_of (n k : Nat) (hk : k ≤ 32) : IntKind.u8.wrap (bShr .i64 (n : Int) (k : Int)) = ((n / 2 ^ k % 256 : Nat) : Int) := by
  have e : bShr .i64 (n : Int) (k : Int) = ((n / 2 ^ k : Nat) : Int) := by
    unfold bShr
    have : min (k : Int).toNat IntKind.i64.bits = k := by
      show min (k : Int).toNat 64 = k
      omega
    rw [this, Int.fdiv_eq_ediv_of_nonneg _ (by exact_mod_cast Nat.zero_le _)]
    push_cast
    rfl
  rw [e]
  show ((n / 2 ^ k : Nat) : Int) % 256 = _
  omega
def getS (l : List Int) : Int := l.foldl (fun t x => bOr .i64 (bShl .i64 t 8) (IntKind.i64.wrap x)) 0
theorem getS_be (n : Int) (h1 : 0 ≤ n) (h2 : n ≤ 2147483647) : getS (be 4 n) = n := by
  obtain ⟨m, rfl⟩ : ∃ m : Nat, n = m := ⟨n.toNat, by omega⟩
  have hm : m ≤ 2147483647 := by omega
  have e : be 4 (m : Int) = [((m / 2 ^ 24 % 256 : Nat) : Int), ((m / 2 ^ 16 % 256 : Nat) : Int), ((m / 2 ^ 8 % 256 : Nat) : Int), ((m / 2 ^ 0 % 256 : Nat) : Int)] := by
    rw [← byte_of m 24 (by omega), ← byte_of m 16 (by omega), ← byte_of m 8 (by omega), ← byte_of m 0 (by omega)]
    rfl
  rw [e, getS]
  simp only [List.foldl]
  generalize h1 : ((m / 2 ^ 24 % 256 : Nat) : Int) = b1
  generalize h2 : ((m / 2 ^ 16 % 256 : Nat) : Int) = b2
  generalize h3 : ((m / 2 ^ 8 % 256 : Nat) : Int) = b3
  generalize h4 : ((m / 2 ^ 0 % 256 : Nat) : Int) = b4
  rw [bOr_add 0 b1 (by omega) (by omega) (by omega) (by omega)]
  rw [bOr_add _ b2 (by omega) (by omega) (by omega) (by omega)]
  rw [bOr_add _ b3 (by omega) (by omega) (by omega) (by omega)]
  rw [bOr_add _ b4 (by omega) (by omega) (by omega) (by omega)]
  omega
theorem be_byte (n : Int) : ∀ w, ∀ x ∈ be w n, 0 ≤ x ∧ x < 256
  | 0 => by simp [be]
  | w + 1 => by
    intro x hx
    rw [be, List.mem_cons] at hx
    rcases hx with rfl | hx
    · constructor <;> simp [IntKind.wrap, IntKind.bits, IntKind.signed] <;> omega
    · exact be_byte n w x hx
def Byt (l : List Int) : Prop := ∀ x ∈ l, 0 ≤ x ∧ x < 256
theorem Byt.append {a b : List Int} (h1 : Byt a) (h2 : Byt b) : Byt (a ++ b) := fun x hx => by
  rcases List.mem_append.1 hx with h | h
  · exact h1 x h
  · exact h2 x h
theorem enc_byt (r : Record) : Byt (enc r) := by
  unfold enc pad
  have h0 : Byt [1] := by simp [Byt]
  have hz : ∀ n, Byt (List.replicate n 0) := fun n x hx => by rw [List.mem_replicate] at hx; omega
  have hb : ∀ n, Byt (be 4 n) := fun n => be_byte n 4
  exact ((((((((((h0.append (hb _)).append (hb _)).append (hb _)).append (hb _)).append (hb _)).append (hb _)).append (hb _)).append (hb _)).append (hb _)).append (hz _))
/-- the two gets -/
theorem a36_eq (l : List Int) (hl : l.length ≤ 1000) : ∀ (k i : Nat) (t : Int), i + k = l.length → a36_0 ⟨t, l, l.length, i⟩ = some ⟨(l.drop i).foldl (fun t x => bOr .i64 (bShl .i64 t 8) (IntKind.i64.wrap x)) t, l, l.length, l.length⟩
  | 0, i, t, h => by
    have : i = l.length := by omega
    subst this
    rw [List.drop_length]
    exact advG_stop fun r => by simp [n36_0]
  | k + 1, i, t, h => by
    have hi : i < l.length := by omega
    have ih := a36_eq l hl k (i + 1) (bOr .i64 (bShl .i64 t 8) (IntKind.i64.wrap l[i])) (by omega)
    have hs : n36_0 ⟨t, l, l.length, i⟩ = some (some ⟨bOr .i64 (bShl .i64 t 8) (IntKind.i64.wrap l[i]), l, l.length, ((i + 1 : Nat) : Int)⟩) := by
      unfold n36_0
      dsimp only
      rw [wrap_id (n := (i : Int) + 1) (by omega) (by omega), decide_eq_true (by omega), cond_true, if_pos (by omega), Int.toNat_natCast, getElem!_pos l i hi]
      rfl
    show advG n36_0 _ = _
    rw [advG_step hs]
    show a36_0 _ = _
    rw [ih, List.drop_eq_getElem_cons hi]
    rfl
theorem m36_eq (l : List Int) (hl : l.length ≤ 1000) : m36 l = some (getS l) := by
  unfold m36
  rw [show (0 : Int) = ((0 : Nat) : Int) from rfl, a36_eq l hl l.length 0 _ (by omega)]
  dsimp only
  rw [decide_eq_false (by omega)]
  rfl
/-- bytes.Equal, slices.Equal -/
theorem byt_inj : ∀ {a b : List Int}, Byt a → Byt b → a.map (fun n => UInt8.ofNat n.toNat) = b.map (fun n => UInt8.ofNat n.toNat) → a = b
  | [], [], _, _, _ => rfl
  | [], y :: ys, _, _, h => by simp at h
  | x :: xs, [], _, _, h => by simp at h
  | x :: xs, y :: ys, h1, h2, h => by
    simp only [List.map_cons, List.cons.injEq] at h
    have q1 := h1 x (List.mem_cons_self ..)
    have q2 := h2 y (List.mem_cons_self ..)
    have e : x = y := by
      have := congrArg UInt8.toNat h.1
      rw [UInt8.toNat_ofNat', UInt8.toNat_ofNat'] at this
      omega
    rw [e, byt_inj (fun z hz => h1 z (List.mem_cons_of_mem _ hz)) (fun z hz => h2 z (List.mem_cons_of_mem _ hz)) h.2]
theorem baList (l : List UInt8) : (ByteArray.mk (Array.mk l)).toList = l := by
  have key : ∀ (k i : Nat) (acc : List UInt8), i + k = l.length → ByteArray.toList.loop (ByteArray.mk (Array.mk l)) i acc = acc.reverse ++ l.drop i := by
    intro k
    induction k with
    | zero =>
      intro i acc h
      rw [ByteArray.toList.loop]
      have hs : (ByteArray.mk (Array.mk l)).size = l.length := rfl
      rw [if_neg (by rw [hs]; omega)]
      rw [List.drop_of_length_le (by omega), List.append_nil]
    | succ k ih =>
      intro i acc h
      rw [ByteArray.toList.loop]
      have hs : (ByteArray.mk (Array.mk l)).size = l.length := rfl
      rw [if_pos (by rw [hs]; omega), ih (i + 1) _ (by omega)]
      have hi : i < l.length := by omega
      rw [List.drop_eq_getElem_cons hi]
      have : (ByteArray.mk (Array.mk l)).get! i = l[i] := by
        show (Array.mk l)[i]! = _
        rw [getElem!_pos (Array.mk l) i hi]
        rfl
      rw [this]
      simp
  have := key l.length 0 [] (by omega)
  simpa [ByteArray.toList] using this
theorem m37_eq {a b : List Int} (h1 : Byt a) (h2 : Byt b) : m37 a b = decide (a = b) := by
  unfold m37
  rw [baList, baList]
  by_cases h : a = b
  · subst h; simp
  · rw [decide_eq_false h]
    rw [beq_eq_false_iff_ne]
    exact fun e => h (byt_inj h1 h2 e)
/-- fields in range -/
def allF (l : List Int) : Bool := l.all okF
theorem m35_eq (n : Int) : m35 n = !okF n := by
  have e : m35 n = (decide (n < 0) || decide (2147483647 < n)) := by
    unfold m35
    cases decide (n < 0) <;> rfl
  rw [e]
  unfold okF
  rw [Bool.eq_iff_iff]
  simp only [Bool.or_eq_true, decide_eq_true_eq, Bool.not_eq_true', decide_eq_false_iff_not]
  omega
theorem n52b_at (a : List Int) (hl : a.length ≤ 100000) (i : Nat) (h : i < a.length) : n52b_0 ⟨a, a.length, i⟩ = if okF a[i]! then some (some ⟨a, a.length, ((i + 1 : Nat) : Int)⟩) else some none := by
  unfold n52b_0
  dsimp only
  rw [wrap_id (n := (i : Int) + 1) (by omega) (by omega), decide_eq_true (show (i : Int) < a.length by omega), cond_true, if_pos (by omega), Int.toNat_natCast, m35_eq]
  cases okF a[i]! <;> rfl
theorem m33b_eq (a : List Int) (hl : a.length ≤ 100000) : m33b a = some (!allF a) := by
  unfold m33b m52b
  obtain ⟨j, q1, q2, q3, q4, q5⟩ := advG_count (rnd := n52b_0) (fun i => ⟨a, a.length, (i : Nat)⟩) a.length (fun i hi => by
      rw [n52b_at a hl i hi]
      cases e : okF a[i]!
      · exact .inr fun r => by simp
      · exact .inl rfl) (fun r => by
      unfold n52b_0
      dsimp only
      rw [decide_eq_false (by omega)]
      simp) a.length 0 (by omega)
  have q3' : a52b_0 ⟨a, a.length, 0⟩ = some ⟨a, a.length, j⟩ := q3
  rw [q3']
  dsimp only
  have hlt : ∀ m (hm : m < j), okF a[m]! = true := by
    intro m hm
    have h1 := q4 m (by omega) hm
    rw [n52b_at a hl m (by omega)] at h1
    cases e : okF a[m]!
    · rw [e] at h1; simp at h1
    · rfl
  by_cases hj : j = a.length
  · subst hj
    have : allF a = true := by
      unfold allF
      rw [List.all_eq_true]
      intro x hx
      obtain ⟨i, hi, rfl⟩ := List.getElem_of_mem hx
      have := hlt i hi
      rwa [getElem!_pos a i hi] at this
    rw [decide_eq_false (show ¬ (a.length : Int) < a.length by omega), this]
    rfl
  · have hj' : j < a.length := by omega
    have hne : okF a[j]! = false := by
      cases e : okF a[j]!
      · rfl
      · have h1 := q5 ⟨a, a.length, ((j + 1 : Nat) : Int)⟩
        rw [n52b_at a hl j hj', if_pos e] at h1
        exact absurd rfl h1
    have : allF a = false := by
      unfold allF
      rw [List.all_eq_false]
      exact ⟨a[j], List.getElem_mem hj', by rw [getElem!_pos a j hj'] at hne; simp [hne]⟩
    rw [Int.toNat_natCast, decide_eq_true (show (j : Int) < a.length by omega), m35_eq, hne, this, if_pos (by omega)]
    show some (decide ((0 : Int) ≤ j)) = some true
    rw [decide_eq_true (by omega)]
theorem m9_eq (r : Record) : m9 r = some (okR r) := by
  unfold m9
  rw [m33b_eq _ (by simp [m34])]
  simp [m34, allF, okR, Bool.and_assoc]
end Go.Proofs.Ytgdahkddhecloaa
end
section
set_option linter.unusedSectionVars false
set_option linter.unusedVariables false
set_option linter.unusedSimpArgs false
namespace Go.Proofs.Ytgdahkddhecloaa
open Go Go.Iv

def gt (l : List Int) (i : Nat) : Int := getS (List.drop (1 + 4 * i) (List.take (5 + 4 * i) l))
def gF (l : List Int) : Record := ⟨gt l 0, gt l 1, gt l 2, gt l 3, gt l 4, gt l 5, gt l 6, gt l 7, gt l 8⟩
abbrev zR : Record := ⟨0, 0, 0, 0, 0, 0, 0, 0, 0⟩
def dec (l : List Int) : Record × Bool := if l.length = 96 ∧ okR (gF l) = true ∧ enc (gF l) = l then (gF l, true) else (zR, false)
theorem gl (l : List Int) (i : Nat) : m36 (List.drop (1 + 4 * i) (List.take (5 + 4 * i) l)) = some (gt l i) := m36_eq _ (by simp; omega)
theorem m10_eq (l : List Int) (hb : Byt l) : m10 l = some (dec l) := by
  unfold m10 dec
  by_cases h : l.length = 96
  · have h' : (l.length : Int) = 96 := by omega
    rw [h']
    have g0 := gl l 0
    have g1 := gl l 1
    have g2 := gl l 2
    have g3 := gl l 3
    have g4 := gl l 4
    have g5 := gl l 5
    have g6 := gl l 6
    have g7 := gl l 7
    have g8 := gl l 8
    simp only [Nat.mul_zero, Nat.add_zero, Nat.reduceMul, Nat.reduceAdd] at g0 g1 g2 g3 g4 g5 g6 g7 g8
    simp only [g0, g1, g2, g3, g4, g5, g6, g7, g8]
    have e : (⟨gt l 0, gt l 1, gt l 2, gt l 3, gt l 4, gt l 5, gt l 6, gt l 7, gt l 8⟩ : Record) = gF l := rfl
    rw [e, m8_eq]
    cases hk : okR (gF l)
    · simp
    · have := m37_eq (enc_byt (gF l)) hb
      by_cases he : enc (gF l) = l
      · rw [he] at this
        simp [this, he, h]
      · simp [this, he, h]
  · rw [decide_eq_false (show ¬ (l.length : Int) = 96 by omega)]
    rw [if_neg (c := l.length = 96 ∧ okR (gF l) = true ∧ enc (gF l) = l) (fun q => h q.1)]
    rfl
theorem be_get (r : Record) : okR r = true → gF (enc r) = r := by
  intro h
  unfold okR at h
  simp only [Bool.and_eq_true] at h
  have hk : ∀ n, okF n = true → getS (be 4 n) = n := fun n hn => by
    unfold okF at hn
    simp only [decide_eq_true_eq] at hn
    exact getS_be n hn.1 hn.2
  obtain ⟨⟨⟨⟨⟨⟨⟨⟨h0, h1⟩, h2⟩, h3⟩, h4⟩, h5⟩, h6⟩, h7⟩, h8⟩ := h
  cases r with
  | mk a b c d e f g h i =>
    have q0 : gt (enc ⟨a, b, c, d, e, f, g, h, i⟩) 0 = getS (be 4 a) := rfl
    have q1 : gt (enc ⟨a, b, c, d, e, f, g, h, i⟩) 1 = getS (be 4 b) := rfl
    have q2 : gt (enc ⟨a, b, c, d, e, f, g, h, i⟩) 2 = getS (be 4 c) := rfl
    have q3 : gt (enc ⟨a, b, c, d, e, f, g, h, i⟩) 3 = getS (be 4 d) := rfl
    have q4 : gt (enc ⟨a, b, c, d, e, f, g, h, i⟩) 4 = getS (be 4 e) := rfl
    have q5 : gt (enc ⟨a, b, c, d, e, f, g, h, i⟩) 5 = getS (be 4 f) := rfl
    have q6 : gt (enc ⟨a, b, c, d, e, f, g, h, i⟩) 6 = getS (be 4 g) := rfl
    have q7 : gt (enc ⟨a, b, c, d, e, f, g, h, i⟩) 7 = getS (be 4 h) := rfl
    have q8 : gt (enc ⟨a, b, c, d, e, f, g, h, i⟩) 8 = getS (be 4 i) := rfl
    unfold gF
    rw [q0, q1, q2, q3, q4, q5, q6, q7, q8, hk a h0, hk b h1, hk c h2, hk d h3, hk e h4, hk f h5, hk g h6, hk h h7, hk i h8]
theorem recEq (r s : Record) : (bif decide (r.fEpoch = s.fEpoch) then bif decide (r.fSeq = s.fSeq) then bif decide (r.fSecret = s.fSecret) then bif decide (r.fClient = s.fClient) then bif decide (r.fNumber = s.fNumber) then bif decide (r.fProgram = s.fProgram) then bif decide (r.fPublic = s.fPublic) then bif decide (r.fAnswer = s.fAnswer) then bif decide (r.fCharge = s.fCharge) then true else false else false else false else false else false else false else false else false else false) = decide (r = s) := by
  cases r; cases s
  rw [Bool.eq_iff_iff]
  simp [Bool.cond_eq_ite]

end Go.Proofs.Ytgdahkddhecloaa
end
section
set_option linter.unusedSectionVars false
set_option linter.unusedVariables false
set_option linter.unusedSimpArgs false
namespace Go.Proofs.Ytgdahkddhecloaa
open Go Go.Iv

def okV (n : Int) : Bool := decide (1 ≤ n ∧ n ≤ 1048576)
theorem m42_eq (n : Int) : m42 n = !okV n := by
  have e : m42 n = (decide (n < 1) || decide (1048576 < n)) := by
    unfold m42
    cases decide (n < 1) <;> rfl
  rw [e]
  unfold okV
  rw [Bool.eq_iff_iff]
  simp only [Bool.or_eq_true, decide_eq_true_eq, Bool.not_eq_true', decide_eq_false_iff_not]
  omega
theorem n52_at (a : List Int) (hl : a.length ≤ 100000) (i : Nat) (h : i < a.length) : n52_0 ⟨a, a.length, i⟩ = if okV a[i]! then some (some ⟨a, a.length, ((i + 1 : Nat) : Int)⟩) else some none := by
  unfold n52_0
  dsimp only
  rw [wrap_id (n := (i : Int) + 1) (by omega) (by omega), decide_eq_true (show (i : Int) < a.length by omega), cond_true, if_pos (by omega), Int.toNat_natCast, m42_eq]
  cases okV a[i]! <;> rfl
theorem m33_eq (a : List Int) (hl : a.length ≤ 100000) : m33 a = some (!a.all okV) := by
  unfold m33 m52
  obtain ⟨j, q1, q2, q3, q4, q5⟩ := advG_count (rnd := n52_0) (fun i => ⟨a, a.length, (i : Nat)⟩) a.length (fun i hi => by
      rw [n52_at a hl i hi]
      cases e : okV a[i]!
      · exact .inr fun r => by simp
      · exact .inl rfl) (fun r => by
      unfold n52_0
      dsimp only
      rw [decide_eq_false (by omega)]
      simp) a.length 0 (by omega)
  have q3' : a52_0 ⟨a, a.length, 0⟩ = some ⟨a, a.length, j⟩ := q3
  rw [q3']
  dsimp only
  have hlt : ∀ m (hm : m < j), okV a[m]! = true := by
    intro m hm
    have h1 := q4 m (by omega) hm
    rw [n52_at a hl m (by omega)] at h1
    cases e : okV a[m]!
    · rw [e] at h1; simp at h1
    · rfl
  by_cases hj : j = a.length
  · subst hj
    have : a.all okV = true := by
      rw [List.all_eq_true]
      intro x hx
      obtain ⟨i, hi, rfl⟩ := List.getElem_of_mem hx
      have := hlt i hi
      rwa [getElem!_pos a i hi] at this
    rw [decide_eq_false (show ¬ (a.length : Int) < a.length by omega), this]
    rfl
  · have hj' : j < a.length := by omega
    have hne : okV a[j]! = false := by
      cases e : okV a[j]!
      · rfl
      · have h1 := q5 ⟨a, a.length, ((j + 1 : Nat) : Int)⟩
        rw [n52_at a hl j hj', if_pos e] at h1
        exact absurd rfl h1
    have : a.all okV = false := by
      rw [List.all_eq_false]
      exact ⟨a[j], List.getElem_mem hj', by rw [getElem!_pos a j hj'] at hne; simp [hne]⟩
    rw [Int.toNat_natCast, decide_eq_true (show (j : Int) < a.length by omega), m42_eq, hne, this, if_pos (by omega)]
    show some (decide ((0 : Int) ≤ j)) = some true
    rw [decide_eq_true (by omega)]
def okH (h : Head) : Bool := (decide (h.fMode = 0) || decide (h.fMode = 1)) && decide (1 ≤ h.fBudgets.length ∧ h.fBudgets.length ≤ 16) && h.fBudgets.all okV
theorem m16_eq (h : Head) (hl : h.fBudgets.length ≤ 100000) : m16 h = some (if okH h then 0 else 1) := by
  unfold m16 okH
  rw [m33_eq _ hl]
  by_cases h2 : 1 ≤ h.fBudgets.length
  · by_cases h3 : h.fBudgets.length ≤ 16
    · have e2 : ¬ (h.fBudgets.length : Int) < 1 := by omega
      have e3 : ¬ 16 < (h.fBudgets.length : Int) := by omega
      by_cases h0 : h.fMode = 0
      · cases hb : h.fBudgets.all okV <;> simp [h0, h2, h3, e2, e3, hb]
      · by_cases h1 : h.fMode = 1
        · cases hb : h.fBudgets.all okV <;> simp [h1, h2, h3, e2, e3, hb]
        · simp [h0, h1]
    · have e2 : ¬ (h.fBudgets.length : Int) < 1 := by omega
      have e3 : 16 < (h.fBudgets.length : Int) := by omega
      by_cases h0 : h.fMode = 0
      · simp [h0, h3, e2, e3]
      · by_cases h1 : h.fMode = 1
        · simp [h1, h3, e2, e3]
        · simp [h0, h1]
  · have e2 : (h.fBudgets.length : Int) < 1 := by omega
    by_cases h0 : h.fMode = 0
    · simp [h0, h2, e2]
    · by_cases h1 : h.fMode = 1
      · simp [h1, h2, e2]
      · simp [h0, h1]
/-- bytes of the budgets -/
def be3 (l : List Int) (b : List Int) : List Int := l.foldl (fun b x => b ++ be 3 x) b
theorem be3_eq : ∀ (l b : List Int), be3 l b = b ++ l.flatMap (be 3)
  | [], b => by simp [be3]
  | x :: l, b => by
    have := be3_eq l (b ++ be 3 x)
    simp only [be3, List.foldl_cons] at this ⊢
    rw [this]
    simp
theorem flat_len : ∀ l : List Int, (l.flatMap (be 3)).length = 3 * l.length
  | [] => rfl
  | x :: l => by simp [flat_len l, be_len]; omega
theorem a31b1_eq (t1 n : Int) (t10 : List Int) (t11 t12 : Int) : ∀ (w : Nat) (b : List Int), w ≤ 8 → b.length + w ≤ 1000 → a31b_1 ⟨b, t1, n, (w : Int) - 1, t10, t11, t12⟩ = some ⟨b ++ be w n, t1, n, -1, t10, t11, t12⟩
  | 0, b, _, _ => by
    rw [be, List.append_nil]
    exact advG_stop fun r => by simp [n31b_1]
  | w + 1, b, hw, hb => by
    have ih := a31b1_eq t1 n t10 t11 t12 w (b ++ [IntKind.u8.wrap (bShr .i64 n (8 * w))]) (by omega) (by simp; omega)
    have e1 : IntKind.i64.wrap (8 * (((w + 1 : Nat) : Int) - 1)) = 8 * w := by rw [wrap_id (by omega) (by omega)]; omega
    have e2 : IntKind.i64.wrap ((((w + 1 : Nat) : Int) - 1) - 1) = (w : Int) - 1 := by rw [wrap_id (by omega) (by omega)]; omega
    have hs : n31b_1 ⟨b, t1, n, ((w + 1 : Nat) : Int) - 1, t10, t11, t12⟩ = some (some ⟨b ++ [IntKind.u8.wrap (bShr .i64 n (8 * w))], t1, n, (w : Int) - 1, t10, t11, t12⟩) := by
      unfold n31b_1
      dsimp only
      rw [e1, e2, decide_eq_true (show (0 : Int) ≤ ((w + 1 : Nat) : Int) - 1 by omega), cond_true, if_pos (by omega), if_pos (by simp; omega)]
    show advG n31b_1 _ = _
    rw [advG_step hs]
    show a31b_1 _ = _
    rw [ih, be, List.append_assoc]
    rfl
theorem a31b_eq (l : List Int) (hl : l.length ≤ 16) : ∀ (k i : Nat) (b : List Int), i + k = l.length → b.length ≤ 100 + 3 * i → a31b_0 ⟨b, 3, l, l.length, i⟩ = some ⟨be3 (l.drop i) b, 3, l, l.length, l.length⟩
  | 0, i, b, h, hb => by
    have : i = l.length := by omega
    subst this
    rw [List.drop_length]
    exact advG_stop fun r => by simp [n31b_0]
  | k + 1, i, b, h, hb => by
    have hi : i < l.length := by omega
    have ih := a31b_eq l hl k (i + 1) (b ++ be 3 l[i]) (by omega) (by simp [be_len]; omega)
    have e2 : IntKind.i64.wrap ((3 : Int) - 1) = ((3 : Nat) : Int) - 1 := wrap_id (by omega) (by omega)
    have hs : n31b_0 ⟨b, 3, l, l.length, i⟩ = some (some ⟨b ++ be 3 l[i], 3, l, l.length, ((i + 1 : Nat) : Int)⟩) := by
      unfold n31b_0
      dsimp only
      rw [e2, decide_eq_true (show (i : Int) < l.length by omega), cond_true, if_pos (by omega), Int.toNat_natCast, getElem!_pos l i hi, a31b1_eq _ _ _ _ _ 3 b (by omega) (by omega)]
      dsimp only
      rw [wrap_id (n := (i : Int) + 1) (by omega) (by omega)]
      rfl
    show advG n31b_0 _ = _
    rw [advG_step hs]
    show a31b_0 _ = _
    rw [ih, List.drop_eq_getElem_cons hi]
    rfl
theorem m31b_eq (l b : List Int) (hl : l.length ≤ 16) (hb : b.length ≤ 100) : m31b 3 l b = some (b ++ l.flatMap (be 3)) := by
  unfold m31b
  rw [show (0 : Int) = ((0 : Nat) : Int) from rfl, a31b_eq l hl l.length 0 b (by omega) (by omega)]
  dsimp only
  rw [decide_eq_false (by omega)]
  rw [List.drop_zero, be3_eq]
  rfl
def headB (h : Head) (e : Int) : List Int := [2] ++ be 4 e ++ [IntKind.u8.wrap h.fMode, IntKind.u8.wrap (h.fBudgets.length : Int)]
def encH (h : Head) (e : Int) : List Int := pad (headB h e ++ h.fBudgets.flatMap (be 3))
theorem headB_len (h : Head) (e : Int) : (headB h e).length = 7 := by simp [headB, be_len]
theorem body_len (h : Head) (e : Int) : (headB h e ++ h.fBudgets.flatMap (be 3)).length = 7 + 3 * h.fBudgets.length := by rw [List.length_append, headB_len, flat_len]
theorem encH_len (h : Head) (e : Int) (hl : h.fBudgets.length ≤ 16) : (encH h e).length = 96 := by
  unfold encH pad
  rw [List.length_append, List.length_replicate, body_len]
  omega
theorem okH_len {h : Head} (hk : okH h = true) : 1 ≤ h.fBudgets.length ∧ h.fBudgets.length ≤ 16 := by
  unfold okH at hk
  simp only [Bool.and_eq_true, decide_eq_true_eq] at hk
  exact hk.1.2
theorem m15_eq (h : Head) (e : Int) (hl : h.fBudgets.length ≤ 100000) : m15 h e = some (if okH h && okF e then (encH h e, 0) else ([], 1)) := by
  unfold m15
  rw [m16_eq h hl, m30_eq]
  cases hk : okH h
  · simp
  · cases he : okF e
    · simp
    · have := okH_len hk
      have hq : ([2] ++ be 4 e ++ [IntKind.u8.wrap h.fMode, IntKind.u8.wrap (h.fBudgets.length : Int)]) = headB h e := rfl
      rw [show (4 : Int) = ((4 : Nat) : Int) from rfl, m31_eq e 4 [2] (by omega) (by simp)]
      dsimp only
      rw [hq, m31b_eq _ _ this.2 (by rw [headB_len]; omega)]
      have hc : (headB h e).length ≤ 1073741824 := by rw [headB_len]; omega
      simp only [if_pos hc, Bool.and_self, if_true, cond_true, cond_false]
      simp only [decide_true, cond_true, cond_false]
      rw [m32_eq _ (by rw [body_len]; omega)]
      rfl

theorem n43_at (a b : List Int) (hl : a.length ≤ 100000) (hab : a.length = b.length) (i : Nat) (h : i < a.length) : n43_0 ⟨a, b, a.length, i⟩ = if a[i]! = b[i]! then some (some ⟨a, b, a.length, ((i + 1 : Nat) : Int)⟩) else some none := by
  unfold n43_0
  dsimp only
  rw [wrap_id (n := (i : Int) + 1) (by omega) (by omega), decide_eq_true (show (i : Int) < a.length by omega), cond_true, if_pos (by omega), if_pos (by omega), Int.toNat_natCast]
  by_cases e : a[i]! = b[i]!
  · rw [if_pos e, decide_eq_true e]; rfl
  · rw [if_neg e, decide_eq_false e]; rfl
theorem m43_eq (a b : List Int) (hl : a.length ≤ 100000) : m43 a b = some (decide (a = b)) := by
  unfold m43
  by_cases he : a.length = b.length
  · rw [decide_eq_true (show (a.length : Int) = b.length by omega)]
    obtain ⟨j, q1, q2, q3, q4, q5⟩ := advG_count (rnd := n43_0) (fun i => ⟨a, b, a.length, (i : Nat)⟩) a.length (fun i hi => by
        rw [n43_at a b hl he i hi]
        by_cases e : a[i]! = b[i]!
        · rw [if_pos e]; exact .inl rfl
        · rw [if_neg e]; exact .inr fun r => by simp) (fun r => by
        unfold n43_0
        dsimp only
        rw [decide_eq_false (by omega)]
        simp) a.length 0 (by omega)
    have q3' : a43_0 ⟨a, b, a.length, 0⟩ = some ⟨a, b, a.length, j⟩ := q3
    rw [q3']
    have hlt : ∀ m (hm : m < j), a[m]! = b[m]! := by
      intro m hm
      have h1 := q4 m (by omega) hm
      rw [n43_at a b hl he m (by omega)] at h1
      by_cases e : a[m]! = b[m]!
      · exact e
      · rw [if_neg e] at h1; simp at h1
    by_cases hj : j = a.length
    · subst hj
      have : a = b := by
        apply List.ext_getElem he
        intro i h1 h2
        have := hlt i h1
        rwa [getElem!_pos a i h1, getElem!_pos b i h2] at this
      dsimp only
      rw [decide_eq_false (show ¬ (a.length : Int) < a.length by omega), decide_eq_true this]
      rfl
    · have hj' : j < a.length := by omega
      have hne : ¬ a[j]! = b[j]! := by
        intro e
        have h1 := q5 ⟨a, b, a.length, ((j + 1 : Nat) : Int)⟩
        rw [n43_at a b hl he j hj', if_pos e] at h1
        exact h1 rfl
      have : ¬ a = b := fun e => hne (by rw [e])
      dsimp only
      rw [Int.toNat_natCast, decide_eq_true (show (j : Int) < a.length by omega), decide_eq_false hne, decide_eq_false this, if_pos (by omega), if_pos (by omega)]
      rfl
  · rw [decide_eq_false (show ¬ (a.length : Int) = b.length by omega)]
    rw [decide_eq_false (fun h => he (by rw [h]))]
    rfl

def gH (l : List Int) (i : Nat) : Int := getS (List.drop (7 + 3 * i) (List.take (10 + 3 * i) l))
def gHs (l : List Int) (n : Nat) : List Int := (List.range n).map (gH l)
theorem gHs_len (l : List Int) (n : Nat) : (gHs l n).length = n := by simp [gHs]
theorem gHs_succ (l : List Int) (n : Nat) : gHs l (n + 1) = gHs l n ++ [gH l n] := by
  unfold gHs
  rw [List.range_succ, List.map_append]
  rfl
abbrev zH : Head := ⟨0, []⟩
theorem a17_eq (l : List Int) (h : l.length = 96) (m : Int) (n : Nat) (hn : n ≤ 16) : a17_0 ⟨l, n, 0, zH, ⟨m, []⟩⟩ = some ⟨l, n, n, zH, ⟨m, gHs l n⟩⟩ := by
  have := advG_all (rnd := n17_0) (fun i => ⟨l, n, (i : Nat), zH, ⟨m, gHs l i⟩⟩) n (fun i hi => by
    unfold n17_0
    dsimp only
    have e1 : IntKind.i64.wrap ((3 : Int) * (i : Nat)) = ((3 * i : Nat) : Int) := by rw [wrap_id (by omega) (by omega)]; omega
    have e2 : IntKind.i64.wrap ((7 : Int) + ((3 * i : Nat) : Int)) = ((7 + 3 * i : Nat) : Int) := by rw [wrap_id (by omega) (by omega)]; omega
    have e3 : IntKind.i64.wrap ((10 : Int) + ((3 * i : Nat) : Int)) = ((10 + 3 * i : Nat) : Int) := by rw [wrap_id (by omega) (by omega)]; omega
    rw [e1, e2, e3, wrap_id (n := (i : Int) + 1) (by omega) (by omega), decide_eq_true (by omega), cond_true, if_pos (by omega), Int.toNat_natCast, Int.toNat_natCast, m36_eq _ (by simp; omega)]
    dsimp only
    rw [if_pos (by rw [List.length_append, gHs_len]; simp; omega), gHs_succ]
    rfl) (fun r => by
    unfold n17_0
    dsimp only
    rw [decide_eq_false (by omega)]
    simp)
  exact this
def hd (l : List Int) : Head := ⟨l[5]!, gHs l l[6]!.toNat⟩
def ep (l : List Int) : Int := getS (List.drop 1 (List.take 5 l))
open Classical in
noncomputable def decH (l : List Int) : Head × Int × Bool := if l.length = 96 ∧ l[6]! ≤ (16 : Int) ∧ okH (hd l) = true ∧ okF (ep l) = true ∧ encH (hd l) (ep l) = l then (hd l, ep l, true) else (zH, 0, false)
theorem byt_at {l : List Int} (hb : Byt l) {i : Nat} (hi : i < l.length) : 0 ≤ l[i]! ∧ l[i]! < 256 := by
  rw [getElem!_pos l i hi]
  exact hb _ (List.getElem_mem hi)
theorem encH_byt (h : Head) (e : Int) : Byt (encH h e) := by
  have hz : ∀ n, Byt (List.replicate n 0) := fun n x hx => by rw [List.mem_replicate] at hx; omega
  have h2 : Byt [2] := by simp [Byt]
  have hw : Byt [IntKind.u8.wrap h.fMode, IntKind.u8.wrap (h.fBudgets.length : Int)] := by
    intro x hx
    have e : ∀ n, IntKind.u8.wrap n = n % 256 := fun n => rfl
    simp only [List.mem_cons, List.not_mem_nil, or_false, e] at hx
    rcases hx with rfl | rfl <;> omega
  have hf : Byt (h.fBudgets.flatMap (be 3)) := fun x hx => by
    obtain ⟨y, _, hy⟩ := List.mem_flatMap.1 hx
    exact be_byte y 3 x hy
  unfold encH pad headB
  exact (((h2.append (be_byte e 4)).append hw).append hf).append (hz _)
theorem m17_eq (l : List Int) (hb : Byt l) : m17 l = some (decH l) := by
  unfold m17
  by_cases h : l.length = 96
  · have h' : (l.length : Int) = 96 := by omega
    have h6 := byt_at hb (i := 6) (by omega)
    rw [h']
    have e6 : l[Int.toNat 6]! = l[6]! := rfl
    rw [e6]
    by_cases hc : (16 : Int) < l[6]!
    · have : decH l = (zH, 0, false) := if_neg fun q => by have := q.2.1; omega
      rw [this, decide_eq_true hc]
      rfl
    · obtain ⟨n, hn⟩ : ∃ n : Nat, l[6]! = n := ⟨l[6]!.toNat, by omega⟩
      have ew : IntKind.i64.wrap l[6]! = n := by rw [hn]; exact wrap_id (by omega) (by omega)
      have h5 := byt_at hb (i := 5) (by omega)
      have ew5 : IntKind.i64.wrap l[5]! = l[5]! := wrap_id (by omega) (by omega)
      have ehd : (⟨l[5]!, gHs l n⟩ : Head) = hd l := by unfold hd; rw [hn]; rfl
      have hlen : (hd l).fBudgets.length ≤ 16 := by rw [← ehd]; show (gHs l n).length ≤ 16; rw [gHs_len]; omega
      rw [ew, ew5, decide_eq_false hc, a17_eq l h _ n (by omega)]
      dsimp only
      rw [decide_eq_false (show ¬ (n : Int) < n by omega)]
      dsimp only [cond_false]
      rw [ehd, h', m36_eq _ (by simp; omega)]
      simp only [m15_eq (hd l) _ (show (hd l).fBudgets.length ≤ 100000 by omega)]
      have eep : getS (List.drop 1 (List.take 5 l)) = ep l := rfl
      rw [eep]
      have hm := m37_eq (encH_byt (hd l) (ep l)) hb
      cases hk : okH (hd l) && okF (ep l)
      · have : decH l = (zH, 0, false) := if_neg fun q => by rw [q.2.2.1, q.2.2.2.1] at hk; cases hk
        rw [this]
        rfl
      · rw [Bool.and_eq_true] at hk
        by_cases he : encH (hd l) (ep l) = l
        · have : decH l = (hd l, ep l, true) := if_pos ⟨h, by omega, hk.1, hk.2, he⟩
          rw [this]
          rw [he] at hm
          simp [he, hm]
        · have : decH l = (zH, 0, false) := if_neg fun q => he q.2.2.2.2
          rw [this]
          simp [he, hm]
  · have : decH l = (zH, 0, false) := if_neg fun q => h q.1
    rw [this, decide_eq_false (show ¬ (l.length : Int) = 96 by omega)]
    rfl
theorem ep_nonneg (l : List Int) (hb : Byt l) (h : l.length = 96) : 0 ≤ ep l := by
  have hl : (List.drop 1 (List.take 5 l)).length = 4 := by simp; omega
  have hbb : Byt (List.drop 1 (List.take 5 l)) := fun x hx => hb x (List.mem_of_mem_take (List.mem_of_mem_drop hx))
  unfold ep
  revert hl hbb
  generalize List.drop 1 (List.take 5 l) = q
  intro hl hbb
  match q, hl with
  | [a, b, c, d], _ =>
    have h1 := hbb a (by simp)
    have h2 := hbb b (by simp)
    have h3 := hbb c (by simp)
    have h4 := hbb d (by simp)
    unfold getS
    simp only [List.foldl]
    rw [bOr_add 0 a (by omega) (by omega) (by omega) (by omega)]
    rw [bOr_add _ b (by omega) (by omega) (by omega) (by omega)]
    rw [bOr_add _ c (by omega) (by omega) (by omega) (by omega)]
    rw [bOr_add _ d (by omega) (by omega) (by omega) (by omega)]
    omega
theorem getS_be3 (n : Int) (h1 : 0 ≤ n) (h2 : n ≤ 1048576) : getS (be 3 n) = n := by
  obtain ⟨m, rfl⟩ : ∃ m : Nat, n = m := ⟨n.toNat, by omega⟩
  have hm : m ≤ 1048576 := by omega
  have e : be 3 (m : Int) = [((m / 2 ^ 16 % 256 : Nat) : Int), ((m / 2 ^ 8 % 256 : Nat) : Int), ((m / 2 ^ 0 % 256 : Nat) : Int)] := by
    rw [← byte_of m 16 (by omega), ← byte_of m 8 (by omega), ← byte_of m 0 (by omega)]
    rfl
  rw [e, getS]
  simp only [List.foldl]
  generalize h2 : ((m / 2 ^ 16 % 256 : Nat) : Int) = b2
  generalize h3 : ((m / 2 ^ 8 % 256 : Nat) : Int) = b3
  generalize h4 : ((m / 2 ^ 0 % 256 : Nat) : Int) = b4
  rw [bOr_add 0 b2 (by omega) (by omega) (by omega) (by omega)]
  rw [bOr_add _ b3 (by omega) (by omega) (by omega) (by omega)]
  rw [bOr_add _ b4 (by omega) (by omega) (by omega) (by omega)]
  omega
theorem flat_at : ∀ (bs post : List Int) (i : Nat) (hi : i < bs.length), List.take 3 (List.drop (3 * i) (bs.flatMap (be 3) ++ post)) = be 3 bs[i]
  | b :: bs, post, 0, hi => by
    rw [Nat.mul_zero, List.drop_zero, List.flatMap_cons, List.append_assoc]
    exact List.take_left' (be_len 3 b)
  | b :: bs, post, i + 1, hi => by
    have ih := flat_at bs post i (by simpa using hi)
    rw [List.flatMap_cons, List.append_assoc]
    have : 3 * (i + 1) = (be 3 b).length + 3 * i := by rw [be_len]; omega
    rw [this, List.drop_append, Nat.add_sub_cancel_left, List.drop_of_length_le (by omega), List.nil_append, ih]
    rfl
theorem enc_slice (h : Head) (e : Int) (i : Nat) (hi : i < h.fBudgets.length) : List.drop (7 + 3 * i) (List.take (10 + 3 * i) (encH h e)) = be 3 h.fBudgets[i] := by
  rw [List.drop_take]
  have e1 : 10 + 3 * i - (7 + 3 * i) = 3 := by omega
  rw [e1]
  unfold encH pad
  rw [List.append_assoc]
  have e2 : 7 + 3 * i = (headB h e).length + 3 * i := by rw [headB_len]
  rw [e2, List.drop_append, Nat.add_sub_cancel_left, List.drop_of_length_le (by omega), List.nil_append]
  exact flat_at _ _ i hi
theorem wrap8 (n : Int) (h1 : 0 ≤ n) (h2 : n < 256) : IntKind.u8.wrap n = n := by
  show n % 256 = n
  omega
theorem hd_enc (h : Head) (e : Int) (hk : okH h = true) : hd (encH h e) = h := by
  have hl := okH_len hk
  have h5 : (encH h e)[5]! = IntKind.u8.wrap h.fMode := rfl
  have h6 : (encH h e)[6]! = IntKind.u8.wrap (h.fBudgets.length : Int) := rfl
  unfold okH at hk
  simp only [Bool.and_eq_true, Bool.or_eq_true, decide_eq_true_eq, List.all_eq_true] at hk
  unfold hd
  rw [h5, h6, wrap8 _ (by omega) (by omega), wrap8 _ (by omega) (by omega), Int.toNat_natCast]
  have : gHs (encH h e) h.fBudgets.length = h.fBudgets := by
    apply List.ext_getElem (gHs_len _ _)
    intro i h1 h2
    simp only [gHs, List.getElem_map, List.getElem_range]
    unfold gH
    rw [enc_slice h e i h2]
    have := hk.2 _ (List.getElem_mem h2)
    unfold okV at this
    rw [decide_eq_true_eq] at this
    exact getS_be3 _ (by omega) (by omega)
  rw [this]
theorem ep_enc (h : Head) (e : Int) (hf : okF e = true) : ep (encH h e) = e := by
  have : ep (encH h e) = getS (be 4 e) := rfl
  rw [this]
  unfold okF at hf
  rw [decide_eq_true_eq] at hf
  exact getS_be e hf.1 hf.2
theorem decH_enc (h : Head) (e : Int) (hk : okH h = true) (hf : okF e = true) : decH (encH h e) = (h, e, true) := by
  have hl := okH_len hk
  have h6 : (encH h e)[6]! = IntKind.u8.wrap (h.fBudgets.length : Int) := rfl
  unfold decH
  rw [hd_enc h e hk, ep_enc h e hf, if_pos ⟨encH_len h e hl.2, by rw [h6, wrap8 _ (by omega) (by omega)]; omega, hk, hf, rfl⟩]
end Go.Proofs.Ytgdahkddhecloaa
end
section
set_option linter.unusedSectionVars false
set_option linter.unusedVariables false
set_option linter.unusedSimpArgs false
namespace Go.Proofs.Ytgdahkddhecloaa.S
open Go Go.Iv
open YtgdahkddhecloaaD (V less)

theorem map_toW_frW (l : List Write) : (l.map toW).map frW = l := by rw [List.map_map, show (frW ∘ toW) = id from rfl, List.map_id]
theorem frD_toD (d : Disk) : frD (toD d) = d := by
  obtain ⟨a, b, c, e⟩ := d
  show Disk.mk a ((b.map toW).map frW) c e = _
  rw [map_toW_frW]
def app (l : List (List Int)) (ws : List Write) : List (List Int) := ws.foldl (fun l w => l.set w.fAt.toNat w.fData) l
theorem app_len (ws : List Write) : ∀ l, (app l ws).length = l.length := by
  induction ws with
  | nil => intro l; rfl
  | cons w ws ih => intro l; show (app (l.set _ _) ws).length = _; rw [ih, List.length_set]
theorem app_toW (l : List (List Int)) (ws : List Write) : YtgdahkddhecloaaD.app l (ws.map toW) = app l ws := by
  unfold app YtgdahkddhecloaaD.app
  rw [List.foldl_map]
  rfl
/-- valid -/
def Ok (d : Disk) : Prop := (1 ≤ d.fDurable.length ∧ d.fDurable.length ≤ 4096) ∧ d.fPending.length ≤ 8192 ∧ (∀ b ∈ d.fDurable, b.length = 96) ∧ ∀ w ∈ d.fPending, 0 ≤ w.fAt ∧ w.fAt < (d.fDurable.length : Int) ∧ w.fData.length = 96
theorem Ok.vv {d : Disk} (h : Ok d) : V (toD d) = true := by
  obtain ⟨⟨h1, h2⟩, h3, h4, h5⟩ := h
  have e : (∀ x ∈ (toD d).fPending, decide (0 ≤ x.fAt) = true ∧ decide (x.fAt < (d.fDurable.length : Int)) = true ∧ decide (x.fData.length = 96) = true) := fun w hw => by
    obtain ⟨w', hw', rfl⟩ := List.mem_map.1 hw
    have := h5 w' hw'
    exact ⟨decide_eq_true this.1, decide_eq_true this.2.1, decide_eq_true this.2.2⟩
  unfold V
  rw [decide_eq_true (show 1 ≤ (toD d).fDurable.length from h1), decide_eq_true (show (toD d).fDurable.length ≤ 4096 from h2), decide_eq_true (show (toD d).fPending.length ≤ 8192 by show (d.fPending.map toW).length ≤ _; rw [List.length_map]; exact h3), (show ((toD d).fDurable.all fun b => decide (b.length = 96)) = true from List.all_eq_true.2 (fun b hb => decide_eq_true (h4 b hb))), List.all_eq_true.2 (fun w hw => by rw [(e w hw).1, (e w hw).2.2, show decide (w.fAt < ((toD d).fDurable.length : Int)) = true from (e w hw).2.1]; rfl)]
  rfl
theorem m45_ok {d : Disk} (h : Ok d) : m45 d = some true := by
  unfold m45
  rw [YtgdahkddhecloaaD.m45_eq _ (Nat.le_trans h.1.2 (by decide)) (by show (d.fPending.map toW).length ≤ _; rw [List.length_map]; exact Nat.le_trans h.2.1 (by decide)), h.vv]
theorem m46_ok {d : Disk} (h : Ok d) (n : Int) (p : List Int) (h1 : 0 ≤ n) (h2 : n < d.fDurable.length) (h3 : p.length = 96) (h4 : d.fPending.length < 8192) : m46 d n p = some (if d.fDown = true then (d, 17) else if d.fLeft = 0 then (⟨d.fDurable, d.fPending, d.fLeft, true⟩, 17) else (⟨d.fDurable, d.fPending ++ [⟨n, p⟩], less d.fLeft, d.fDown⟩, 0)) := by
  unfold m46
  rw [YtgdahkddhecloaaD.m46_eq (toD d) h.vv n p h1 h2 h3 (by show (d.fPending.map toW).length < _; rw [List.length_map]; exact h4), Option.map_some]
  congr 1
  show _ = if d.fDown = true then _ else _
  by_cases q1 : d.fDown = true
  · rw [if_pos q1, if_pos (show (toD d).fDown = true from q1), frD_toD]
  · rw [if_neg q1, if_neg (show ¬ (toD d).fDown = true from q1)]
    by_cases q2 : d.fLeft = 0
    · rw [if_pos q2, if_pos (show (toD d).fLeft = 0 from q2)]
      simp only [frD, toD, map_toW_frW]
    · rw [if_neg q2, if_neg (show ¬ (toD d).fLeft = 0 from q2)]
      simp only [frD, toD, List.map_append, map_toW_frW, List.map_cons, List.map_nil]
      rfl
theorem m47_ok {d : Disk} (h : Ok d) : m47 d = some (if d.fDown = true then (d, 17) else if d.fLeft = 0 then (⟨d.fDurable, d.fPending, d.fLeft, true⟩, 17) else (⟨app d.fDurable d.fPending, [], less d.fLeft, d.fDown⟩, 0)) := by
  unfold m47
  rw [YtgdahkddhecloaaD.m47_eq (toD d) h.vv, Option.map_some]
  congr 1
  by_cases q1 : d.fDown = true
  · rw [if_pos q1, if_pos (show (toD d).fDown = true from q1), frD_toD]
  · rw [if_neg q1, if_neg (show ¬ (toD d).fDown = true from q1)]
    by_cases q2 : d.fLeft = 0
    · rw [if_pos q2, if_pos (show (toD d).fLeft = 0 from q2)]
      simp only [frD, toD, map_toW_frW]
    · rw [if_neg q2, if_neg (show ¬ (toD d).fLeft = 0 from q2)]
      simp only [frD, toD, List.map_nil, app_toW]
theorem m48_ok {d : Disk} (h : Ok d) (n : Int) (h1 : 0 ≤ n) (h2 : n < d.fDurable.length) (hd : d.fDown = false) (hp : d.fPending = []) : m48 d n = some (d.fDurable[n.toNat]!, 0) := by
  unfold m48
  exact YtgdahkddhecloaaD.m48_eq (toD d) h.vv n h1 h2 hd (by show d.fPending.map toW = []; rw [hp]; rfl)

/-! ### copies -/
theorem take_get {α : Type} [Inhabited α] (l : List α) {i : Nat} (h : i < l.length) : l.take (i + 1) = l.take i ++ [l[i]!] := by
  rw [List.take_add_one, List.getElem?_eq_getElem h, getElem!_pos l i h]
  rfl
theorem m60_id {l : List Int} (h : l.length ≤ 1073741824) : m60 l = some l := by unfold m60; rw [if_pos h]
theorem m63_id {l : List Int} (h : l.length ≤ 1073741824) : m63 l = some l := by unfold m63; rw [if_pos h]
theorem get_mem {α : Type} [Inhabited α] {l : List α} {i : Nat} (h : i < l.length) : l[i]! ∈ l := by
  rw [getElem!_pos l i h]; exact List.getElem_mem _
theorem w1 {i n : Nat} (h : i < n) (hn : n ≤ 1000000) : IntKind.i64.wrap ((i : Int) + 1) = ((i + 1 : Nat) : Int) := by rw [wrap_id (by omega) (by omega)]; rfl

theorem m49_id {d : Disk} (h : Ok d) : m49 d = some d := by
  obtain ⟨⟨h1, h2⟩, h3, h4, h5⟩ := h
  obtain ⟨du, pe, le, dn⟩ := d
  simp only at h1 h2 h3 h4 h5
  have e0 : a49_0 ⟨du, du.length, 0, ⟨du, pe, le, dn⟩, ⟨[], [], 0, false⟩, ⟨[], [], le, dn⟩⟩ = some ⟨du, du.length, du.length, ⟨du, pe, le, dn⟩, ⟨[], [], 0, false⟩, ⟨du, [], le, dn⟩⟩ := by
    have := advG_all (rnd := n49_0) (fun i => ⟨du, du.length, (i : Int), ⟨du, pe, le, dn⟩, ⟨[], [], 0, false⟩, ⟨du.take i, [], le, dn⟩⟩) du.length (fun i hi => by
      unfold n49_0
      dsimp only
      rw [decide_eq_true (by omega), cond_true, if_pos (by omega), Int.toNat_natCast, m63_id (by rw [h4 _ (get_mem hi)]; decide), w1 hi (by omega)]
      dsimp only
      rw [← take_get du hi, if_pos (by simp; omega)]) (fun r => by
      unfold n49_0
      dsimp only
      rw [decide_eq_false (by omega)]
      simp)
    rw [List.take_length] at this
    exact this
  have e1 : a49_1 ⟨pe, pe.length, 0, ⟨[], [], 0, false⟩, ⟨du, [], le, dn⟩⟩ = some ⟨pe, pe.length, pe.length, ⟨[], [], 0, false⟩, ⟨du, pe, le, dn⟩⟩ := by
    have := advG_all (rnd := n49_1) (fun i => ⟨pe, pe.length, (i : Int), ⟨[], [], 0, false⟩, ⟨du, pe.take i, le, dn⟩⟩) pe.length (fun i hi => by
      unfold n49_1
      dsimp only
      rw [decide_eq_true (by omega), cond_true, if_pos (by omega), Int.toNat_natCast, m63_id (by rw [(h5 _ (get_mem hi)).2.2]; decide), w1 hi (by omega)]
      dsimp only
      rw [← take_get pe hi, if_pos (by simp; omega)]) (fun r => by
      unfold n49_1
      dsimp only
      rw [decide_eq_false (by omega)]
      simp)
    rw [List.take_length] at this
    exact this
  unfold m49
  dsimp only
  rw [e0]
  dsimp only
  rw [decide_eq_false (by omega), cond_false, e1]
  dsimp only
  rw [decide_eq_false (by omega), cond_false]

theorem m51_id {d : Disk} (h : Ok d) : m51 d = some d := by
  obtain ⟨⟨h1, h2⟩, h3, h4, h5⟩ := h
  obtain ⟨du, pe, le, dn⟩ := d
  simp only at h1 h2 h3 h4 h5
  have e0 : a51_0 ⟨du, du.length, 0, ⟨du, pe, le, dn⟩, ⟨[], [], 0, false⟩, ⟨[], [], le, dn⟩⟩ = some ⟨du, du.length, du.length, ⟨du, pe, le, dn⟩, ⟨[], [], 0, false⟩, ⟨du, [], le, dn⟩⟩ := by
    have := advG_all (rnd := n51_0) (fun i => ⟨du, du.length, (i : Int), ⟨du, pe, le, dn⟩, ⟨[], [], 0, false⟩, ⟨du.take i, [], le, dn⟩⟩) du.length (fun i hi => by
      unfold n51_0
      dsimp only
      rw [decide_eq_true (by omega), cond_true, if_pos (by omega), Int.toNat_natCast, m60_id (by rw [h4 _ (get_mem hi)]; decide), w1 hi (by omega)]
      dsimp only
      rw [← take_get du hi, if_pos (by simp; omega)]) (fun r => by
      unfold n51_0
      dsimp only
      rw [decide_eq_false (by omega)]
      simp)
    rw [List.take_length] at this
    exact this
  have e1 : a51_1 ⟨pe, pe.length, 0, ⟨[], [], 0, false⟩, ⟨du, [], le, dn⟩⟩ = some ⟨pe, pe.length, pe.length, ⟨[], [], 0, false⟩, ⟨du, pe, le, dn⟩⟩ := by
    have := advG_all (rnd := n51_1) (fun i => ⟨pe, pe.length, (i : Int), ⟨[], [], 0, false⟩, ⟨du, pe.take i, le, dn⟩⟩) pe.length (fun i hi => by
      unfold n51_1
      dsimp only
      rw [decide_eq_true (by omega), cond_true, if_pos (by omega), Int.toNat_natCast, m60_id (by rw [(h5 _ (get_mem hi)).2.2]; decide), w1 hi (by omega)]
      dsimp only
      rw [← take_get pe hi, if_pos (by simp; omega)]) (fun r => by
      unfold n51_1
      dsimp only
      rw [decide_eq_false (by omega)]
      simp)
    rw [List.take_length] at this
    exact this
  unfold m51
  dsimp only
  rw [e0]
  dsimp only
  rw [decide_eq_false (by omega), cond_false, e1]
  dsimp only
  rw [decide_eq_false (by omega), cond_false]


/-! ### Crash, right, blank -/
def crN (L : List (List Int)) (ws : List Write) (keep : List Bool) : Nat → List (List Int)
  | 0 => L
  | i + 1 => if i < keep.length ∧ keep[i]! = true then (crN L ws keep i).set ws[i]!.fAt.toNat ws[i]!.fData else crN L ws keep i
theorem crN_len (L : List (List Int)) (ws : List Write) (keep : List Bool) : ∀ i, (crN L ws keep i).length = L.length
  | 0 => rfl
  | i + 1 => by
    rw [crN]
    split
    · rw [List.length_set, crN_len L ws keep i]
    · exact crN_len L ws keep i
theorem m28_ok {d : Disk} (h : Ok d) (keep : List Bool) (hk : keep.length ≤ 1000000) : m28 d keep = some ⟨crN d.fDurable d.fPending keep d.fPending.length, [], -1, false⟩ := by
  have h51 := m51_id h
  obtain ⟨⟨h1, h2⟩, h3, h4, h5⟩ := h
  obtain ⟨du, pe, le, dn⟩ := d
  simp only at h1 h2 h3 h4 h5
  have e0 : a28_0 ⟨keep, pe, pe.length, 0, ⟨[], [], 0, false⟩, ⟨du, pe, le, dn⟩⟩ = some ⟨keep, pe, pe.length, pe.length, ⟨[], [], 0, false⟩, ⟨crN du pe keep pe.length, pe, le, dn⟩⟩ := by
    have := advG_all (rnd := n28_0) (fun i => ⟨keep, pe, pe.length, (i : Int), ⟨[], [], 0, false⟩, ⟨crN du pe keep i, pe, le, dn⟩⟩) pe.length (fun i hi => by
      have hw := h5 _ (get_mem hi)
      unfold n28_0
      dsimp only
      rw [decide_eq_true (by omega), cond_true, if_pos (by omega), Int.toNat_natCast, if_pos ⟨rfl, hi⟩, w1 hi (by omega), crN_len]
      by_cases q : i < keep.length
      · rw [decide_eq_true (by omega), cond_true, if_pos (by omega)]
        dsimp only
        by_cases q2 : keep[i]! = true
        · rw [q2, cond_true, if_pos (by omega), if_pos ⟨rfl, by omega⟩, crN, if_pos ⟨q, q2⟩]
        · rw [show keep[i]! = false from by simpa using q2, cond_false, crN, if_neg (fun e => q2 e.2)]
      · rw [decide_eq_false (by omega), cond_false]
        dsimp only
        rw [cond_false, crN, if_neg (fun e => q e.1)]) (fun r => by
      unfold n28_0
      dsimp only
      rw [decide_eq_false (by omega)]
      simp)
    exact this
  unfold m28
  rw [h51]
  dsimp only
  rw [e0]
  dsimp only
  rw [decide_eq_false (by omega), cond_false]

theorem m44_ok {d : Disk} (h : Ok d) : m44 d = some true := by
  obtain ⟨⟨h1, h2⟩, h3, h4, h5⟩ := h
  obtain ⟨du, pe, le, dn⟩ := d
  simp only at h1 h2 h3 h4 h5
  have e0 : a44_0 ⟨du, du.length, 0, ⟨du, pe, le, dn⟩⟩ = some ⟨du, du.length, du.length, ⟨du, pe, le, dn⟩⟩ := by
    have := advG_all (rnd := n44_0) (fun i => ⟨du, du.length, (i : Int), ⟨du, pe, le, dn⟩⟩) du.length (fun i hi => by
      have hw := h4 _ (get_mem hi)
      unfold n44_0
      dsimp only
      rw [decide_eq_true (by omega), cond_true, if_pos (by omega), Int.toNat_natCast, w1 hi (by omega), decide_eq_true (show ((du[i]!.length : Nat) : Int) = 96 by omega)]
      rfl) (fun r => by
      unfold n44_0
      dsimp only
      rw [decide_eq_false (by omega)]
      simp)
    exact this
  have e1 : a44_1 ⟨pe, pe.length, 0, ⟨du, pe, le, dn⟩⟩ = some ⟨pe, pe.length, pe.length, ⟨du, pe, le, dn⟩⟩ := by
    have := advG_all (rnd := n44_1) (fun i => ⟨pe, pe.length, (i : Int), ⟨du, pe, le, dn⟩⟩) pe.length (fun i hi => by
      have hw := h5 _ (get_mem hi)
      unfold n44_1
      dsimp only
      rw [decide_eq_true (by omega), cond_true, if_pos (by omega), Int.toNat_natCast, w1 hi (by omega), decide_eq_false (show ¬ pe[i]!.fAt < 0 by omega), decide_eq_false (show ¬ (du.length : Int) ≤ pe[i]!.fAt by omega), decide_eq_true (show ((pe[i]!.fData.length : Nat) : Int) = 96 by omega)]
      rfl) (fun r => by
      unfold n44_1
      dsimp only
      rw [decide_eq_false (by omega)]
      simp)
    exact this
  unfold m44
  dsimp only
  rw [decide_eq_false (show ¬ (du.length : Int) < 1 by omega), decide_eq_false (show ¬ (4096 : Int) < (du.length : Int) by omega), decide_eq_false (show ¬ (8192 : Int) < (pe.length : Int) by omega)]
  simp only [cond_false]
  rw [e0]
  dsimp only
  rw [decide_eq_false (by omega), cond_false, e1]
  dsimp only
  rw [decide_eq_false (by omega), cond_false]

abbrev zs : List Int := List.replicate 96 0
theorem m25_eq : m25 12 = some ⟨List.replicate 12 zs, [], -1, false⟩ := by
  have e0 : a25_0 ⟨12, 0, ⟨[], [], 0, false⟩, ⟨[], [], -1, false⟩⟩ = some ⟨12, 12, ⟨[], [], 0, false⟩, ⟨List.replicate 12 zs, [], -1, false⟩⟩ := by
    have := advG_all (rnd := n25_0) (fun i => ⟨12, (i : Int), ⟨[], [], 0, false⟩, ⟨List.replicate i zs, [], -1, false⟩⟩) 12 (fun i hi => by
      unfold n25_0
      dsimp only
      rw [decide_eq_true (by omega), cond_true, if_pos (by simp; omega), w1 hi (by omega)]
      exact congrArg (fun x => some (some (L25_0.mk 12 ((i + 1 : Nat) : Int) ⟨[], [], 0, false⟩ ⟨x, [], -1, false⟩))) (List.replicate_succ' (n := i) (a := zs)).symm) (fun r => by
      unfold n25_0
      dsimp only
      rw [decide_eq_false (by omega)]
      simp)
    exact this
  unfold m25
  rw [e0]
  rfl
end Go.Proofs.Ytgdahkddhecloaa.S
end
section
set_option linter.unusedSectionVars false
set_option linter.unusedVariables false
set_option linter.unusedSimpArgs false
namespace Go.Proofs.Ytgdahkddhecloaa.S
open Go Go.Iv
open YtgdahkddhecloaaD (V less)

abbrev dk (L : List (List Int)) : Disk := ⟨L, [], -1, false⟩
structure Sec (L : List (List Int)) : Prop where
  len : L.length = 12
  sz : ∀ b ∈ L, b.length = 96
  byt : ∀ b ∈ L, Byt b
theorem Sec.ok {L : List (List Int)} (h : Sec L) (n : Int) (c : Bool) : Ok ⟨L, [], n, c⟩ := ⟨⟨by simp [h.len], by simp [h.len]⟩, by simp, h.sz, by simp⟩
theorem Sec.set {L : List (List Int)} (h : Sec L) (i : Nat) {b : List Int} (h1 : b.length = 96) (h2 : Byt b) : Sec (L.set i b) :=
  ⟨by rw [List.length_set]; exact h.len, fun c hc => by
    rcases List.mem_or_eq_of_mem_set hc with q | q
    · exact h.sz c q
    · rw [q]; exact h1, fun c hc => by
    rcases List.mem_or_eq_of_mem_set hc with q | q
    · exact h.byt c q
    · rw [q]; exact h2⟩
/-- the records of sectors -/
def rcs (n : Int) : List (List Int) → Int → Int → List Record
  | [], _, _ => []
  | b :: bs, k, last => if (dec b).2 = true ∧ (dec b).1.fSeq = k ∧ last ≤ (dec b).1.fEpoch ∧ (dec b).1.fEpoch ≤ n then (dec b).1 :: rcs n bs (k + 1) (dec b).1.fEpoch else []
def recsF (L : List (List Int)) (n : Int) : List Record := rcs n (L.drop 1) 0 1
noncomputable def t50 (r4 : L50_0) : Option (List Record) :=
    bif decide (r4.t7 < (↑r4.b0.fDurable.length : Int)) then
      match m48 r4.b0 r4.t7 with
      | none =>
        none
      | some r5 =>
        match m10 r5.fst with
        | none =>
          none
        | some r6 =>
          match bif bif decide (r5.snd = 0) then false else true then
            some (true)
          else
            bif bif r6.snd then false else true then
              some (true)
            else
              bif bif decide (r6.fst.fSeq = IntKind.i64.wrap (r4.t7 - 1)) then false else true then
                some (true)
              else
                bif decide (r6.fst.fEpoch < r4.t6) then
                  some (true)
                else
                  some (decide (r4.t1 < r6.fst.fEpoch)) with
          | none =>
            none
          | some r7 =>
            bif r7 then
              some (r4.t5)
            else
              if (r4.t5 ++ [r6.fst]).length ≤ 1073741824 then
                none
              else
                none
    else
      some (r4.t5)
theorem m50_t (d : Disk) (n : Int) : m50 d n = match a50_0 ⟨n, [], 1, 1, d⟩ with
  | none => none
  | some r => t50 r := rfl
theorem chain50 (x : Record × Bool) (k last n : Int) : (bif bif decide ((0 : Int) = 0) then false else true then
            some (true)
          else
            bif bif x.snd then false else true then
              some (true)
            else
              bif bif decide (x.fst.fSeq = k) then false else true then
                some (true)
              else
                bif decide (x.fst.fEpoch < last) then
                  some (true)
                else
                  some (decide (n < x.fst.fEpoch))) = some (!decide (x.2 = true ∧ x.1.fSeq = k ∧ last ≤ x.1.fEpoch ∧ x.1.fEpoch ≤ n)) := by
  rw [decide_eq_true rfl, cond_true, cond_false]
  by_cases c1 : x.2 = true
  · by_cases c2 : x.1.fSeq = k
    · by_cases c3 : last ≤ x.1.fEpoch
      · by_cases c4 : x.1.fEpoch ≤ n
        · simp [c1, c2, c3, c4, Int.not_lt.2 c3]
        · simp [c1, c2, c3, c4, Int.not_lt.2 c3]; omega
      · simp [c1, c2, c3, Int.not_le.1 c3]
    · simp [c1, c2]
  · simp [c1]
theorem rec_loop {L : List (List Int)} (hs : Sec L) (n : Int) : ∀ (bs : List (List Int)) (p : Nat) (acc : List Record) (last : Int), L.drop p = bs → 1 ≤ p → p ≤ 12 → acc.length ≤ p →
    (match a50_0 ⟨n, acc, last, p, dk L⟩ with
      | none => none
      | some r => t50 r) = some (acc ++ rcs n bs ((p : Int) - 1) last) := by
  intro bs
  induction bs with
  | nil =>
    intro p acc last hd h1 h2 h3
    have hp : 12 ≤ p := by have := congrArg List.length hd; simp [hs.len] at this; omega
    have e : a50_0 ⟨n, acc, last, p, dk L⟩ = some ⟨n, acc, last, p, dk L⟩ := advG_stop fun r => by
      unfold n50_0
      dsimp only
      rw [decide_eq_false (by rw [hs.len]; omega)]
      simp
    rw [e]
    unfold t50
    dsimp only
    rw [decide_eq_false (by rw [hs.len]; omega), cond_false, rcs, List.append_nil]
  | cons b bs ih =>
    intro p acc last hd h1 h2 h3
    have hp : p < 12 := by have := congrArg List.length hd; simp [hs.len] at this; omega
    have hp' : p < L.length := by rw [hs.len]; exact hp
    have hb : L[p]! = b := by
      rw [getElem!_pos L p hp']
      have := congrArg List.head? hd
      rw [List.head?_drop, List.getElem?_eq_getElem hp'] at this
      simpa using this
    have hd' : L.drop (p + 1) = bs := by
      have := congrArg List.tail hd
      rw [List.tail_drop] at this
      simpa using this
    have hmem : b ∈ L := by rw [← hb]; exact get_mem hp'
    have e48 : m48 (dk L) (p : Int) = some (b, 0) := by
      rw [m48_ok (hs.ok _ _) (p : Int) (by omega) (by show (p : Int) < (L.length : Int); omega) rfl rfl, Int.toNat_natCast]
      show some (L[p]!, 0) = _
      rw [hb]
    have ew : IntKind.i64.wrap ((p : Int) - 1) = (p : Int) - 1 := wrap_id (by omega) (by omega)
    have hn : n50_0 ⟨n, acc, last, p, dk L⟩ = if (dec b).2 = true ∧ (dec b).1.fSeq = (p : Int) - 1 ∧ last ≤ (dec b).1.fEpoch ∧ (dec b).1.fEpoch ≤ n then some (some ⟨n, acc ++ [(dec b).1], (dec b).1.fEpoch, ((p + 1 : Nat) : Int), dk L⟩) else some none := by
      unfold n50_0
      dsimp only
      rw [decide_eq_true (by rw [hs.len]; omega), cond_true, e48]
      dsimp only
      rw [m10_eq b (hs.byt b hmem)]
      dsimp only
      rw [ew, chain50]
      dsimp only
      by_cases c : (dec b).2 = true ∧ (dec b).1.fSeq = (p : Int) - 1 ∧ last ≤ (dec b).1.fEpoch ∧ (dec b).1.fEpoch ≤ n
      · rw [decide_eq_true c, if_pos c, if_pos (by simp; omega), w1 hp (by omega)]; rfl
      · rw [decide_eq_false c, if_neg c]; rfl
    by_cases c : (dec b).2 = true ∧ (dec b).1.fSeq = (p : Int) - 1 ∧ last ≤ (dec b).1.fEpoch ∧ (dec b).1.fEpoch ≤ n
    · rw [if_pos c] at hn
      have e : a50_0 ⟨n, acc, last, p, dk L⟩ = a50_0 ⟨n, acc ++ [(dec b).1], (dec b).1.fEpoch, ((p + 1 : Nat) : Int), dk L⟩ := advG_step hn
      rw [e, ih (p + 1) _ _ hd' (by omega) (by omega) (by simp; omega), rcs, if_pos c, List.append_assoc, List.singleton_append, show (((p + 1 : Nat) : Int) - 1) = (p : Int) - 1 + 1 from by omega]
    · rw [if_neg c] at hn
      have e : a50_0 ⟨n, acc, last, p, dk L⟩ = some ⟨n, acc, last, p, dk L⟩ := advG_stop fun r => by rw [hn]; simp
      rw [e]
      unfold t50
      dsimp only
      rw [decide_eq_true (by rw [hs.len]; omega), cond_true, e48]
      dsimp only
      rw [m10_eq b (hs.byt b hmem)]
      dsimp only
      rw [ew, chain50, decide_eq_false c, rcs, if_neg c, List.append_nil]
      rfl
theorem m50_eq {L : List (List Int)} (hs : Sec L) (n : Int) : m50 (dk L) n = some (recsF L n) := by
  rw [m50_t]
  exact rec_loop hs n (L.drop 1) 1 [] 1 rfl (by omega) (by omega) (by simp)

abbrev h0 : Head := ⟨1, [16]⟩
theorem h0_ok : okH h0 = true := by decide
theorem m15_h0 (e : Int) (h : 0 ≤ e) (h' : e ≤ 2147483647) : m15 h0 e = some (encH h0 e, 0) := by
  rw [m15_eq h0 e (by decide), h0_ok, show okF e = true from by unfold okF; simp; omega]
  rfl
theorem hd_len (e : Int) : (encH h0 e).length = 96 := encH_len h0 e (by decide)
theorem m46_ok' {L : List (List Int)} {ws : List Write} {le : Int} {dn : Bool} (h : Ok ⟨L, ws, le, dn⟩) (n : Int) (p : List Int) (h1 : 0 ≤ n) (h2 : n < L.length) (h3 : p.length = 96) (h4 : ws.length < 8192) (hd : dn = false) (hl : le ≠ 0) : m46 ⟨L, ws, le, dn⟩ n p = some (⟨L, ws ++ [⟨n, p⟩], less le, dn⟩, 0) := by
  rw [m46_ok h n p h1 h2 h3 h4, if_neg (by simp [hd]), if_neg hl]
theorem m47_ok' {L : List (List Int)} {ws : List Write} {le : Int} {dn : Bool} (h : Ok ⟨L, ws, le, dn⟩) (hd : dn = false) (hl : le ≠ 0) : m47 ⟨L, ws, le, dn⟩ = some (⟨app L ws, [], less le, dn⟩, 0) := by
  rw [m47_ok h, if_neg (by simp [hd]), if_neg hl]
theorem less_neg : less (-1) = -1 := rfl

/-- Open -/
theorem m26_eq {L : List (List Int)} (hs : Sec L) (n : Int) (h1 : 0 ≤ n) (h2 : n + 1 ≤ 2147483647) (hd : L[0]! = encH h0 n) : m26 (dk L) h0 = some (dk (L.set 0 (encH h0 (n + 1))), recsF L n, n + 1, 0) := by
  have hl : 0 < L.length := by rw [hs.len]; omega
  have e48 : m48 (dk L) 0 = some (encH h0 n, 0) := by
    rw [m48_ok (hs.ok _ _) 0 (by omega) (by show (0 : Int) < (L.length : Int); omega) rfl rfl]
    show some (L[0]!, 0) = _
    rw [hd]
  have e17 : m17 (encH h0 n) = some (h0, n, true) := by
    rw [m17_eq _ (encH_byt h0 n), decH_enc h0 n h0_ok (by unfold okF; simp; omega)]
  have ew : IntKind.i64.wrap (n + 1) = n + 1 := wrap_id (by omega) (by omega)
  have e43 : m43 [16] [16] = some true := by rw [m43_eq _ _ (by decide)]; rfl
  unfold m26
  rw [m45_ok (hs.ok _ _), m16_eq h0 (by decide), h0_ok, e48]
  dsimp only
  simp only [if_true, decide_true, cond_true, cond_false]
  rw [decide_eq_false (by omega), cond_false, e17]
  dsimp only
  rw [e43]
  simp only [decide_true, cond_true, cond_false]
  rw [ew, m15_h0 _ (by omega) h2]
  simp only [decide_true, cond_true, cond_false]
  rw [m50_eq hs n]
  dsimp only
  rw [m46_ok' (hs.ok _ _) 0 _ (by omega) (by omega) (hd_len _) (by simp) rfl (by omega)]
  simp only [decide_true, cond_true, cond_false]
  rw [m47_ok' ⟨⟨by simp [hs.len], by simp [hs.len]⟩, by simp, hs.sz, by simp [hs.len]; exact hd_len _⟩ rfl (by decide)]
  rfl
/-- Format -/
theorem app_zs (N : Nat) (ws : List Write) (h : ∀ w ∈ ws, w.fData = zs) : app (List.replicate N zs) ws = List.replicate N zs := by
  induction ws with
  | nil => rfl
  | cons w ws ih =>
    show app ((List.replicate N zs).set _ _) ws = _
    rw [h w (List.mem_cons_self ..), List.set_replicate_self]
    exact ih fun w hw => h w (List.mem_cons_of_mem _ hw)
abbrev zd : List (List Int) := List.replicate 12 zs
theorem zs_byt : Byt zs := fun x hx => by
  have := List.eq_of_mem_replicate hx
  omega
theorem zd_sec : Sec zd := ⟨rfl, fun b hb => by rw [List.eq_of_mem_replicate hb]; rfl, fun b hb => by rw [List.eq_of_mem_replicate hb]; exact zs_byt⟩
def pz (i : Nat) : List Write := (List.range i).map fun j : Nat => ⟨(j : Int) + 1, zs⟩
theorem pz_len (i : Nat) : (pz i).length = i := by simp [pz]
theorem pz_succ (i : Nat) : pz (i + 1) = pz i ++ [⟨((i + 1 : Nat) : Int), zs⟩] := by
  unfold pz
  rw [List.range_succ, List.map_append]
  rfl
theorem m24_eq : m24 (dk zd) h0 = some (dk (zd.set 0 (encH h0 0)), 0) := by
  have ok : ∀ i : Nat, i ≤ 11 → Ok ⟨zd, pz i, -1, false⟩ := fun i hi =>
    ⟨⟨by simp, by simp⟩, by show (pz i).length ≤ _; rw [pz_len]; omega, zd_sec.sz, fun w hw => by
      obtain ⟨j, hj, rfl⟩ := List.mem_map.1 hw
      rw [List.mem_range] at hj
      refine ⟨by show (0 : Int) ≤ (j : Int) + 1; omega, ?_, rfl⟩
      show ((j : Int) + 1) < ((List.replicate 12 zs).length : Int)
      rw [List.length_replicate]; omega⟩
  have e0 : a24_0 ⟨encH h0 0, 1, dk zd, ⟨[], [], 0, false⟩⟩ = some ⟨encH h0 0, 12, ⟨zd, pz 11, -1, false⟩, ⟨[], [], 0, false⟩⟩ := by
    have := advG_all (rnd := n24_0) (fun i => ⟨encH h0 0, ((i + 1 : Nat) : Int), ⟨zd, pz i, -1, false⟩, ⟨[], [], 0, false⟩⟩) 11 (fun i hi => by
      unfold n24_0
      dsimp only
      rw [decide_eq_true (by rw [List.length_replicate]; omega), cond_true, m46_ok' (ok i (by omega)) _ _ (by omega) (by rw [List.length_replicate]; omega) rfl (by rw [pz_len]; omega) rfl (by decide)]
      simp only [decide_true, cond_true, cond_false]
      rw [w1 (n := 12) (by omega) (by omega), pz_succ]
      rfl) (fun r => by
      unfold n24_0
      dsimp only
      rw [decide_eq_false (by rw [List.length_replicate]; omega)]
      simp)
    exact this
  unfold m24
  rw [m15_h0 0 (by omega) (by omega), m45_ok (zd_sec.ok _ _)]
  simp only [decide_true, cond_true, cond_false]
  rw [decide_eq_false (by rw [List.length_replicate]; omega), cond_false, e0]
  dsimp only
  rw [decide_eq_false (by rw [List.length_replicate]; omega), cond_false, m46_ok' (ok 11 (by omega)) _ _ (by omega) (by rw [List.length_replicate]; omega) (hd_len _) (by rw [pz_len]; omega) rfl (by decide)]
  simp only [decide_true, cond_true, cond_false]
  rw [less_neg, m47_ok' (ws := _ ++ _) (by
    obtain ⟨q1, q2, q3, q4⟩ := ok 11 (by omega)
    refine ⟨q1, by simp [pz_len], q3, fun w hw => ?_⟩
    rcases List.mem_append.1 hw with hw | hw
    · exact q4 w hw
    · rw [List.mem_singleton] at hw
      subst hw
      exact ⟨by decide, by simp, hd_len _⟩) rfl (by decide)]
  dsimp only
  congr 2
end Go.Proofs.Ytgdahkddhecloaa.S
end
section
set_option linter.unusedSectionVars false
set_option linter.unusedVariables false
set_option linter.unusedSimpArgs false
namespace Go.Proofs.Ytgdahkddhecloaa.S
open Go Go.Iv
open YtgdahkddhecloaaD (V less)

def stamp (n k : Int) (r : Record) : Record := ⟨n, k, r.fSecret, r.fClient, r.fNumber, r.fProgram, r.fPublic, r.fAnswer, r.fCharge⟩
def okT (r : Record) : Prop := okR (stamp 0 0 r) = true
theorem okT.stamp {r : Record} (h : okT r) {n k : Int} (h1 : 0 ≤ n) (h2 : n ≤ 2147483647) (h3 : 0 ≤ k) (h4 : k ≤ 2147483647) : okR (stamp n k r) = true := by
  unfold okT okR S.stamp at h
  unfold okR S.stamp
  have e1 : okF n = true := by unfold okF; simp; omega
  have e2 : okF k = true := by unfold okF; simp; omega
  have e3 : okF 0 = true := by decide
  simp only [e1, e2, e3] at h ⊢
  exact h
def wS (n : Int) (next : Nat) (rs : List Record) (i : Nat) : List Write := (List.range i).map fun j : Nat => ⟨((1 + next + j : Nat) : Int), enc (stamp n ((next + j : Nat) : Int) rs[j]!)⟩
theorem wS_len (n : Int) (next : Nat) (rs : List Record) (i : Nat) : (wS n next rs i).length = i := by simp [wS]
theorem wS_succ (n : Int) (next : Nat) (rs : List Record) (i : Nat) : wS n next rs (i + 1) = wS n next rs i ++ [⟨((1 + next + i : Nat) : Int), enc (stamp n ((next + i : Nat) : Int) rs[i]!)⟩] := by
  unfold wS
  rw [List.range_succ, List.map_append]
  rfl
theorem wS_ok {L : List (List Int)} (hs : Sec L) (n : Int) (next : Nat) (rs : List Record) (i : Nat) (le : Int) (dn : Bool) (h : next + i ≤ 11) : Ok ⟨L, wS n next rs i, le, dn⟩ :=
  ⟨⟨by simp [hs.len], by simp [hs.len]⟩, by show (wS n next rs i).length ≤ _; rw [wS_len]; omega, hs.sz, fun w hw => by
    obtain ⟨j, hj, rfl⟩ := List.mem_map.1 hw
    rw [List.mem_range] at hj
    refine ⟨by show (0 : Int) ≤ ((1 + next + j : Nat) : Int); omega, ?_, enc_len _⟩
    show ((1 + next + j : Nat) : Int) < (L.length : Int)
    rw [hs.len]; omega⟩
def lf (left : Int) (i : Nat) : Int := if left < 0 then left else left - i
theorem less_lf {left : Int} {i : Nat} (h1 : -1 ≤ left) (h2 : left ≤ 9223372036854775807) (h : left < 0 ∨ (i : Int) < left) : less (lf left i) = lf left (i + 1) := by
  rcases h with h | h
  · have e : ∀ i : Nat, lf left i = left := fun i => if_pos h
    rw [e, e]
    unfold less
    rw [if_neg (by omega)]
  · have e : ∀ i : Nat, lf left i = left - i := fun i => if_neg (by omega)
    rw [e, e]
    unfold less
    rw [if_pos (by omega), Ab.w64_eq (by omega)]
    omega
theorem lf_ne {left : Int} {i : Nat} (h1 : -1 ≤ left) (h : left < 0 ∨ (i : Int) < left) : lf left i ≠ 0 := by
  unfold lf
  rcases h with h | h
  · rw [if_pos h]; omega
  · rw [if_neg (by omega)]; omega
theorem m8_st (n k : Int) (r : Record) : m8 (Record.mk n k r.fSecret r.fClient r.fNumber r.fProgram r.fPublic r.fAnswer r.fCharge) = some (if okR (stamp n k r) then (enc (stamp n k r), 0) else ([], 1)) := m8_eq _
theorem m8_ok {n k : Int} {r : Record} (h : okT r) (h1 : 0 ≤ n) (h2 : n ≤ 2147483647) (h3 : 0 ≤ k) (h4 : k ≤ 2147483647) : m8 (Record.mk n k r.fSecret r.fClient r.fNumber r.fProgram r.fPublic r.fAnswer r.fCharge) = some (enc (stamp n k r), 0) := by
  rw [m8_st, h.stamp h1 h2 h3 h4]
  rfl
/-- the first reads of Append -/
theorem a27_0_eq (n next : Int) (rs : List Record) (d : Disk) (hr : rs.length ≤ 100) (hv : ∀ r ∈ rs, okT r) : a27_0 ⟨n, next, rs, rs, rs.length, 0, d, ⟨[], [], 0, false⟩⟩ = some ⟨n, next, rs, rs, rs.length, rs.length, d, ⟨[], [], 0, false⟩⟩ := by
  have := advG_all (rnd := n27_0) (fun i => ⟨n, next, rs, rs, rs.length, (i : Nat), d, ⟨[], [], 0, false⟩⟩) rs.length (fun i hi => by
    unfold n27_0
    dsimp only
    rw [decide_eq_true (by omega), cond_true, if_pos (by omega), Int.toNat_natCast, m8_ok (hv _ (get_mem hi)) (by omega) (by omega) (by omega) (by omega)]
    simp only [decide_true, cond_true, cond_false]
    rw [w1 hi (by omega)]) (fun r => by
    unfold n27_0
    dsimp only
    rw [decide_eq_false (by omega)]
    simp)
  exact this
section
variable {L : List (List Int)} (hs : Sec L) {n : Int} (n1 : 1 ≤ n) (n2 : n ≤ 2147483647) {next : Nat} {rs : List Record} (hv : ∀ r ∈ rs, okT r) {left : Int} (l1 : -1 ≤ left) (l2 : left ≤ 9223372036854775807) (hf : next + rs.length ≤ 11)
include hs n1 n2 hv l1 l2 hf
theorem n27_1_go (i : Nat) (hi : i < rs.length) (h : left < 0 ∨ (i : Int) < left) : n27_1 ⟨n, next, rs, rs.length, (i : Nat), ⟨L, wS n next rs i, lf left i, false⟩, ⟨[], [], 0, false⟩⟩ = some (some ⟨n, next, rs, rs.length, ((i + 1 : Nat) : Int), ⟨L, wS n next rs (i + 1), lf left (i + 1), false⟩, ⟨[], [], 0, false⟩⟩) := by
  have e1 : IntKind.i64.wrap ((next : Int) + (i : Int)) = ((next + i : Nat) : Int) := by rw [wrap_id (by omega) (by omega)]; omega
  have e2 : IntKind.i64.wrap (IntKind.i64.wrap (1 + (next : Int)) + (i : Int)) = ((1 + next + i : Nat) : Int) := by rw [wrap_id (n := 1 + (next : Int)) (by omega) (by omega), wrap_id (by omega) (by omega)]; omega
  unfold n27_1
  dsimp only
  rw [decide_eq_true (by omega), cond_true, if_pos (by omega), Int.toNat_natCast, e1, e2, m8_ok (hv _ (get_mem hi)) (by omega) n2 (by omega) (by omega)]
  dsimp only
  rw [m46_ok' (wS_ok hs n next rs i _ _ (by omega)) _ _ (by omega) (by rw [hs.len]; omega) (enc_len _) (by rw [wS_len]; omega) rfl (lf_ne l1 h)]
  simp only [decide_true, cond_true, cond_false]
  rw [w1 hi (by omega), less_lf l1 l2 h, wS_succ]
theorem m46_down (i : Nat) (hi : i < rs.length) (h : (i : Int) = left) : m46 ⟨L, wS n next rs i, lf left i, false⟩ ((1 + next + i : Nat) : Int) (enc (stamp n ((next + i : Nat) : Int) rs[i]!)) = some (⟨L, wS n next rs i, 0, true⟩, 17) := by
  rw [m46_ok (wS_ok hs n next rs i _ _ (by omega)) _ _ (by omega) (by show ((1 + next + i : Nat) : Int) < (L.length : Int); rw [hs.len]; omega) (enc_len _) (by show (wS n next rs i).length < _; rw [wS_len]; omega)]
  have e : lf left i = 0 := by unfold lf; rw [if_neg (by omega)]; omega
  simp [e]
theorem m27_go (h0 : rs.length ≠ 0) : m27 ⟨L, [], left, false⟩ n next rs = some (if left < 0 ∨ (rs.length : Int) < left then (⟨app L (wS n next rs rs.length), [], lf left (rs.length + 1), false⟩, 0) else (⟨L, wS n next rs left.toNat, 0, true⟩, 17)) := by
  have e0 := a27_0_eq n next rs ⟨L, [], left, false⟩ (by omega) hv
  have ew : IntKind.i64.wrap ((next : Int) + (rs.length : Int)) = ((next + rs.length : Nat) : Int) := by rw [wrap_id (by omega) (by omega)]; omega
  have e00 : (⟨L, [], left, false⟩ : Disk) = ⟨L, wS n next rs 0, lf left 0, false⟩ := by
    have : lf left 0 = left := by unfold lf; split <;> simp
    rw [this]
    rfl
  unfold m27
  rw [m45_ok (hs.ok _ _)]
  dsimp only
  rw [decide_eq_false (show ¬ n < 1 by omega), decide_eq_false (show ¬ 2147483647 < n by omega), decide_eq_false (show ¬ (next : Int) < 0 by omega)]
  simp only [cond_true, cond_false]
  rw [e0]
  dsimp only
  rw [decide_eq_false (by omega), cond_false, decide_eq_false (show ¬ ((rs.length : Nat) : Int) = 0 by omega), cond_false, ew, decide_eq_false (show ¬ ((L.length : Nat) : Int) ≤ (next : Int) by rw [hs.len]; omega), decide_eq_false (show ¬ ((L.length : Nat) : Int) ≤ ((next + rs.length : Nat) : Int) by rw [hs.len]; omega)]
  simp only [cond_false]
  rw [e00]
  by_cases hl : left < 0 ∨ (rs.length : Int) ≤ left
  · have e1 : a27_1 ⟨n, next, rs, rs.length, 0, ⟨L, wS n next rs 0, lf left 0, false⟩, ⟨[], [], 0, false⟩⟩ = some ⟨n, next, rs, rs.length, rs.length, ⟨L, wS n next rs rs.length, lf left rs.length, false⟩, ⟨[], [], 0, false⟩⟩ := by
      have := advG_all (rnd := n27_1) (fun i => ⟨n, next, rs, rs.length, (i : Nat), ⟨L, wS n next rs i, lf left i, false⟩, ⟨[], [], 0, false⟩⟩) rs.length (fun i hi => n27_1_go hs n1 n2 hv l1 l2 hf i hi (by omega)) (fun r => by
        unfold n27_1
        dsimp only
        rw [decide_eq_false (by omega)]
        simp)
      exact this
    rw [e1]
    dsimp only
    rw [decide_eq_false (by omega), cond_false, m47_ok (wS_ok hs n next rs rs.length _ _ hf)]
    by_cases hl2 : left < 0 ∨ (rs.length : Int) < left
    · simp only [Bool.false_eq_true, if_false, if_neg (lf_ne l1 hl2), if_pos hl2, less_lf l1 l2 hl2]
    · have e : lf left rs.length = 0 := by unfold lf; rw [if_neg (by omega)]; omega
      have e' : left.toNat = rs.length := by omega
      simp only [Bool.false_eq_true, if_false, if_neg hl2, e, e', if_true]
  · have hlt : left.toNat < rs.length := by omega
    have hn : n27_1 ⟨n, next, rs, rs.length, (left.toNat : Nat), ⟨L, wS n next rs left.toNat, lf left left.toNat, false⟩, ⟨[], [], 0, false⟩⟩ = some none := by
      have e1 : IntKind.i64.wrap ((next : Int) + (left.toNat : Int)) = ((next + left.toNat : Nat) : Int) := by rw [wrap_id (by omega) (by omega)]; omega
      have e2 : IntKind.i64.wrap (IntKind.i64.wrap (1 + (next : Int)) + (left.toNat : Int)) = ((1 + next + left.toNat : Nat) : Int) := by rw [wrap_id (n := 1 + (next : Int)) (by omega) (by omega), wrap_id (by omega) (by omega)]; omega
      unfold n27_1
      dsimp only
      rw [decide_eq_true (by omega), cond_true, if_pos (by omega), Int.toNat_natCast, e1, e2, m8_ok (hv _ (get_mem hlt)) (by omega) n2 (by omega) (by omega)]
      dsimp only
      rw [m46_down hs n1 n2 hv l1 l2 hf _ hlt (by omega)]
      rfl
    have e1 : a27_1 ⟨n, next, rs, rs.length, 0, ⟨L, wS n next rs 0, lf left 0, false⟩, ⟨[], [], 0, false⟩⟩ = some ⟨n, next, rs, rs.length, (left.toNat : Nat), ⟨L, wS n next rs left.toNat, lf left left.toNat, false⟩, ⟨[], [], 0, false⟩⟩ := by
      have := advG_all (rnd := n27_1) (fun i => ⟨n, next, rs, rs.length, (i : Nat), ⟨L, wS n next rs i, lf left i, false⟩, ⟨[], [], 0, false⟩⟩) left.toNat (fun i hi => n27_1_go hs n1 n2 hv l1 l2 hf i (by omega) (by omega)) (fun r => by
        rw [hn]
        simp)
      exact this
    have e1' : IntKind.i64.wrap ((next : Int) + (left.toNat : Int)) = ((next + left.toNat : Nat) : Int) := by rw [wrap_id (by omega) (by omega)]; omega
    have e2 : IntKind.i64.wrap (IntKind.i64.wrap (1 + (next : Int)) + (left.toNat : Int)) = ((1 + next + left.toNat : Nat) : Int) := by rw [wrap_id (n := 1 + (next : Int)) (by omega) (by omega), wrap_id (by omega) (by omega)]; omega
    rw [e1]
    dsimp only
    rw [decide_eq_true (by omega), cond_true, if_pos (by omega), Int.toNat_natCast, e1', e2, m8_ok (hv _ (get_mem hlt)) (by omega) n2 (by omega) (by omega)]
    dsimp only
    rw [m46_down hs n1 n2 hv l1 l2 hf _ hlt (by omega)]
    rw [if_neg (by omega)]
    rfl
end
section
variable {L : List (List Int)} (hs : Sec L) {n : Int} (n1 : 1 ≤ n) (n2 : n ≤ 2147483647) {next : Nat} (hn : next ≤ 11) {left : Int}
include hs n1 n2 hn
theorem m27_nil : m27 ⟨L, [], left, false⟩ n next [] = some (⟨L, [], left, false⟩, 0) := by
  have e0 := a27_0_eq n next [] ⟨L, [], left, false⟩ (by simp) (by simp)
  unfold m27
  rw [m45_ok (hs.ok _ _)]
  dsimp only
  rw [decide_eq_false (show ¬ n < 1 by omega), decide_eq_false (show ¬ 2147483647 < n by omega), decide_eq_false (show ¬ (next : Int) < 0 by omega)]
  simp only [cond_true, cond_false]
  rw [e0]
  dsimp only
  rw [decide_eq_false (by omega), cond_false, decide_eq_true (show ((([] : List Record).length : Nat) : Int) = 0 by rfl), cond_true, m49_id (hs.ok _ _)]
theorem m27_full {rs : List Record} (hv : ∀ r ∈ rs, okT r) (hr : rs.length ≤ 100) (h0 : rs.length ≠ 0) (hf : 12 ≤ next + rs.length) : m27 ⟨L, [], left, false⟩ n next rs = some (⟨[], [], 0, false⟩, 16) := by
  have e0 := a27_0_eq n next rs ⟨L, [], left, false⟩ hr hv
  have ew : IntKind.i64.wrap ((next : Int) + (rs.length : Int)) = ((next + rs.length : Nat) : Int) := by rw [wrap_id (by omega) (by omega)]; omega
  unfold m27
  rw [m45_ok (hs.ok _ _)]
  dsimp only
  rw [decide_eq_false (show ¬ n < 1 by omega), decide_eq_false (show ¬ 2147483647 < n by omega), decide_eq_false (show ¬ (next : Int) < 0 by omega)]
  simp only [cond_true, cond_false]
  rw [e0]
  dsimp only
  rw [decide_eq_false (by omega), cond_false, decide_eq_false (show ¬ ((rs.length : Nat) : Int) = 0 by omega), cond_false, ew, decide_eq_false (show ¬ ((L.length : Nat) : Int) ≤ (next : Int) by rw [hs.len]; omega), decide_eq_true (show ((L.length : Nat) : Int) ≤ ((next + rs.length : Nat) : Int) by rw [hs.len]; omega)]
  rfl
end
end Go.Proofs.Ytgdahkddhecloaa.S
end
section
set_option linter.unusedSectionVars false
set_option linter.unusedVariables false
set_option linter.unusedSimpArgs false
namespace Go.Proofs.Ytgdahkddhecloaa.S
open Go Go.Iv
open YtgdahkddhecloaaD (V less)

def apF (L : List (List Int)) (n : Int) (next : Nat) (left : Int) (rs : List Record) : List (List Int) × List Write × Int :=
  if rs.length = 0 then (L, [], 0) else if 12 ≤ next + rs.length then (L, [], 16) else if left < 0 ∨ (rs.length : Int) < left then (app L (wS n next rs rs.length), [], 0) else (L, wS n next rs left.toNat, 17)
structure Pl where
  L : List (List Int)
  n : Int
  next : Nat
abbrev lft (e : GEvent) : Int := if e.fLeft < -1 then -1 else e.fLeft
def stepF (s : Pl) (e : GEvent) : Outcome × Pl :=
  let a := apF s.L s.n s.next (lft e) e.fRecords
  if e.fCrash = true ∨ a.2.2 = 17 then
    (⟨a.2.2, true, recsF (crN a.1 a.2.1 e.fKeep a.2.1.length) s.n, s.n + 1⟩, ⟨(crN a.1 a.2.1 e.fKeep a.2.1.length).set 0 (encH h0 (s.n + 1)), s.n + 1, (recsF (crN a.1 a.2.1 e.fKeep a.2.1.length) s.n).length⟩)
  else (⟨a.2.2, false, [], 0⟩, ⟨a.1, s.n, if a.2.2 = 0 then s.next + e.fRecords.length else s.next⟩)
structure Inv (s : Pl) (k : Nat) : Prop where
  sec : Sec s.L
  hd : s.L[0]! = encH h0 s.n
  n1 : 1 ≤ s.n
  nk : s.n ≤ (k : Int) + 1
  nx : s.next ≤ 11
structure okE (e : GEvent) : Prop where
  r5 : e.fRecords.length ≤ 5
  k20 : e.fKeep.length ≤ 20
  rv : ∀ r ∈ e.fRecords, okT r
  le : e.fLeft ≤ 9223372036854775807
theorem set0 {L : List (List Int)} {i : Nat} (h : i ≠ 0) (b : List Int) : (L.set i b)[0]! = L[0]! := by
  rw [List.getElem!_eq_getElem?_getD, List.getElem!_eq_getElem?_getD, List.getElem?_set_ne h]
theorem enc_sec {L : List (List Int)} (h : Sec L) (i : Nat) (r : Record) : Sec (L.set i (enc r)) := h.set i (enc_len r) (enc_byt r)
theorem app_sec (ws : List Write) : ∀ {L : List (List Int)}, Sec L → (∀ w ∈ ws, 1 ≤ w.fAt ∧ ∃ r, w.fData = enc r) → Sec (app L ws) ∧ (app L ws)[0]! = L[0]! := by
  induction ws with
  | nil => intro L h _; exact ⟨h, rfl⟩
  | cons w ws ih =>
    intro L h hw
    obtain ⟨h1, r, hr⟩ := hw w (List.mem_cons_self ..)
    obtain ⟨q1, q2⟩ := ih (L := L.set w.fAt.toNat w.fData) (by rw [hr]; exact enc_sec h _ r) (fun x hx => hw x (List.mem_cons_of_mem _ hx))
    exact ⟨q1, q2.trans (set0 (by omega) _)⟩
theorem crN_sec {L : List (List Int)} (h : Sec L) {ws : List Write} (hw : ∀ w ∈ ws, 1 ≤ w.fAt ∧ ∃ r, w.fData = enc r) (keep : List Bool) : ∀ i, i ≤ ws.length → Sec (crN L ws keep i) ∧ (crN L ws keep i)[0]! = L[0]!
  | 0, _ => ⟨h, rfl⟩
  | i + 1, hi => by
    obtain ⟨q1, q2⟩ := crN_sec h hw keep i (by omega)
    rw [crN]
    split
    · obtain ⟨h1, r, hr⟩ := hw _ (get_mem (show i < ws.length by omega))
      exact ⟨by rw [hr]; exact enc_sec q1 _ r, (set0 (by omega) _).trans q2⟩
    · exact ⟨q1, q2⟩
theorem wS_mem {n : Int} {next : Nat} {rs : List Record} {i : Nat} : ∀ w ∈ wS n next rs i, 1 ≤ w.fAt ∧ ∃ r, w.fData = enc r := fun w hw => by
  obtain ⟨j, hj, rfl⟩ := List.mem_map.1 hw
  exact ⟨by show (1 : Int) ≤ ((1 + next + j : Nat) : Int); omega, _, rfl⟩
theorem rcs_len (n : Int) : ∀ (bs : List (List Int)) (k last : Int), (rcs n bs k last).length ≤ bs.length
  | [], _, _ => by simp [rcs]
  | b :: bs, k, last => by
    rw [rcs]
    split
    · have := rcs_len n bs (k + 1) (dec b).1.fEpoch
      simp only [List.length_cons]; omega
    · simp
theorem recsF_len {L : List (List Int)} (h : Sec L) (n : Int) : (recsF L n).length ≤ 11 := by
  have := rcs_len n (L.drop 1) 0 1
  rw [List.length_drop, h.len] at this
  exact this
section
variable {s : Pl} {k : Nat} (hi : Inv s k) (hk : k ≤ 100) {e : GEvent} (he : okE e)
include hi hk he
theorem ap_ok : Sec (apF s.L s.n s.next (lft e) e.fRecords).1 ∧ (apF s.L s.n s.next (lft e) e.fRecords).1[0]! = s.L[0]! ∧ (∀ w ∈ (apF s.L s.n s.next (lft e) e.fRecords).2.1, 1 ≤ w.fAt ∧ ∃ r, w.fData = enc r) ∧ (∀ le dn, Ok ⟨(apF s.L s.n s.next (lft e) e.fRecords).1, (apF s.L s.n s.next (lft e) e.fRecords).2.1, le, dn⟩)
    ∧ ((apF s.L s.n s.next (lft e) e.fRecords).2.2 ≠ 17 → (apF s.L s.n s.next (lft e) e.fRecords).2.1 = []) ∧ ((apF s.L s.n s.next (lft e) e.fRecords).2.2 = 0 → s.next + e.fRecords.length ≤ 11)
    ∧ ((apF s.L s.n s.next (lft e) e.fRecords).2.2 = 16 ∧ (apF s.L s.n s.next (lft e) e.fRecords).1 = s.L ∧ m27 ⟨s.L, [], lft e, false⟩ s.n s.next e.fRecords = some (⟨[], [], 0, false⟩, 16)
      ∨ ((apF s.L s.n s.next (lft e) e.fRecords).2.2 = 0 ∧ ∃ le, m27 ⟨s.L, [], lft e, false⟩ s.n s.next e.fRecords = some (⟨(apF s.L s.n s.next (lft e) e.fRecords).1, [], le, false⟩, 0))
      ∨ ((apF s.L s.n s.next (lft e) e.fRecords).2.2 = 17 ∧ ∃ le dn, m27 ⟨s.L, [], lft e, false⟩ s.n s.next e.fRecords = some (⟨(apF s.L s.n s.next (lft e) e.fRecords).1, (apF s.L s.n s.next (lft e) e.fRecords).2.1, le, dn⟩, 17))) := by
  have hn2 : s.n ≤ 2147483647 := by have := hi.nk; omega
  have hl1 : -1 ≤ lft e := by unfold lft; split <;> omega
  have hl2 : lft e ≤ 9223372036854775807 := by have := he.le; unfold lft; split <;> omega
  have hr5 := he.r5
  unfold apF
  by_cases c1 : e.fRecords.length = 0
  · rw [if_pos c1]
    refine ⟨hi.sec, rfl, by simp, fun le dn => hi.sec.ok _ _, fun _ => rfl, fun _ => by have := hi.nx; omega, .inr (.inl ⟨rfl, lft e, ?_⟩)⟩
    rw [List.eq_nil_of_length_eq_zero c1]
    exact m27_nil hi.sec hi.n1 hn2 hi.nx
  · rw [if_neg c1]
    by_cases c2 : 12 ≤ s.next + e.fRecords.length
    · rw [if_pos c2]
      exact ⟨hi.sec, rfl, by simp, fun le dn => hi.sec.ok _ _, fun _ => rfl, fun h => (by cases h), .inl ⟨rfl, rfl, m27_full hi.sec hi.n1 hn2 hi.nx he.rv (by omega) c1 c2⟩⟩
    · rw [if_neg c2]
      have hg := m27_go hi.sec hi.n1 hn2 he.rv hl1 hl2 (show s.next + e.fRecords.length ≤ 11 by omega) c1
      by_cases c3 : lft e < 0 ∨ (e.fRecords.length : Int) < lft e
      · rw [if_pos c3] at hg ⊢
        obtain ⟨q1, q2⟩ := app_sec (wS s.n s.next e.fRecords e.fRecords.length) hi.sec wS_mem
        exact ⟨q1, q2, by simp, fun le dn => q1.ok _ _, fun _ => rfl, fun _ => by omega, .inr (.inl ⟨rfl, _, hg⟩)⟩
      · rw [if_neg c3] at hg ⊢
        exact ⟨hi.sec, rfl, wS_mem, fun le dn => wS_ok hi.sec _ _ _ _ _ _ (by omega), fun h => absurd rfl h, fun h => (by cases h), .inr (.inr ⟨rfl, _, _, hg⟩)⟩
theorem stepF_inv : Inv (stepF s e).2 (k + 1) := by
  obtain ⟨a1, a2, a3, a4, a5, a6, _⟩ := ap_ok hi hk he
  unfold stepF
  dsimp only
  split
  · obtain ⟨q1, q2⟩ := crN_sec a1 a3 e.fKeep _ (Nat.le_refl _)
    exact ⟨q1.set 0 (hd_len _) (encH_byt _ _), by
      rw [getElem!_pos _ 0 (by rw [List.length_set, q1.len]; omega), List.getElem_set_self], by have := hi.n1; show 1 ≤ s.n + 1; omega, by have := hi.nk; show s.n + 1 ≤ ((k + 1 : Nat) : Int) + 1; omega, recsF_len q1 _⟩
  · refine ⟨a1, a2.trans hi.hd, hi.n1, by have := hi.nk; show s.n ≤ ((k + 1 : Nat) : Int) + 1; omega, ?_⟩
    show (if _ = _ then _ else _) ≤ 11
    split
    · rename_i h; exact a6 h
    · exact hi.nx
theorem opn_ok {le : Int} {dn : Bool} : m28 ⟨(apF s.L s.n s.next (lft e) e.fRecords).1, (apF s.L s.n s.next (lft e) e.fRecords).2.1, le, dn⟩ e.fKeep = some (dk (crN (apF s.L s.n s.next (lft e) e.fRecords).1 (apF s.L s.n s.next (lft e) e.fRecords).2.1 e.fKeep (apF s.L s.n s.next (lft e) e.fRecords).2.1.length))
    ∧ m26 (dk (crN (apF s.L s.n s.next (lft e) e.fRecords).1 (apF s.L s.n s.next (lft e) e.fRecords).2.1 e.fKeep (apF s.L s.n s.next (lft e) e.fRecords).2.1.length)) h0 = some (dk ((crN (apF s.L s.n s.next (lft e) e.fRecords).1 (apF s.L s.n s.next (lft e) e.fRecords).2.1 e.fKeep (apF s.L s.n s.next (lft e) e.fRecords).2.1.length).set 0 (encH h0 (s.n + 1))), recsF (crN (apF s.L s.n s.next (lft e) e.fRecords).1 (apF s.L s.n s.next (lft e) e.fRecords).2.1 e.fKeep (apF s.L s.n s.next (lft e) e.fRecords).2.1.length) s.n, s.n + 1, 0) := by
  obtain ⟨a1, a2, a3, a4, a5, a6, _⟩ := ap_ok hi hk he
  obtain ⟨q1, q2⟩ := crN_sec a1 a3 e.fKeep _ (Nat.le_refl _)
  have hn1 := hi.n1
  have hnk := hi.nk
  exact ⟨m28_ok (a4 le dn) e.fKeep (by have := he.k20; omega), m26_eq q1 s.n (by omega) (by omega) (q2.trans (a2.trans hi.hd))⟩
theorem n22_eq (out : List Outcome) (ho : out.length ≤ 100) (l : List GEvent) (i : Nat) (hl : l.length ≤ 100) (hil : i < l.length) (hie : l[i]! = e) :
    n22_0 ⟨out, s.n, s.next, l, l.length, i, h0, dk s.L⟩ = some (some ⟨out ++ [(stepF s e).1], (stepF s e).2.n, (stepF s e).2.next, l, l.length, ((i + 1 : Nat) : Int), h0, dk (stepF s e).2.L⟩) := by
  obtain ⟨a1, a2, a3, a4, a5, a6, a7⟩ := ap_ok hi hk he
  have hop := fun le dn => @opn_ok s k hi hk e he le dn
  unfold stepF
  dsimp only
  unfold n22_0
  dsimp only
  rw [decide_eq_true (by omega), cond_true, if_pos (by omega), Int.toNat_natCast, hie, w1 hil (by omega)]
  have hlen : ∀ o : Outcome, (out ++ [o]).length ≤ 1073741824 := fun o => by rw [List.length_append]; simp; omega
  generalize apF s.L s.n s.next (lft e) e.fRecords = a at *
  obtain ⟨L1, pe, c⟩ := a
  dsimp only at *
  rcases a7 with ⟨rfl, rfl, h27⟩ | ⟨rfl, le, h27⟩ | ⟨rfl, le, dn, h27⟩
  · rw [h27]
    have hp := a5 (by omega)
    subst hp
    dsimp only
    rw [decide_eq_false (by decide), cond_false, decide_eq_false (by decide), cond_false, decide_eq_true rfl, cond_true, m44_ok (hi.sec.ok _ _)]
    dsimp only [cond_true, cond_false]
    by_cases hc : e.fCrash = true
    · rw [if_pos (show e.fCrash = true ∨ (16 : Int) = 17 from .inl hc), hc, cond_true]
      dsimp only
      rw [cond_true, (hop (-1) false).1]
      dsimp only
      rw [(hop (-1) false).2]
      dsimp only [cond_true, cond_false]
      rw [decide_eq_true rfl, cond_true, cond_false, if_pos (hlen _)]
    · rw [if_neg (show ¬ (e.fCrash = true ∨ (16 : Int) = 17) by rintro (h | h); exact hc h; cases h), show e.fCrash = false from by simpa using hc, cond_false]
      dsimp only
      rw [cond_false, if_pos (hlen _), if_neg (show ¬ (16 : Int) = 0 by decide)]
  · rw [h27]
    have hp := a5 (by omega)
    subst hp
    dsimp only
    rw [decide_eq_true rfl, cond_true, m44_ok (a4 _ _)]
    dsimp only [cond_true, cond_false]
    by_cases hc : e.fCrash = true
    · rw [if_pos (show e.fCrash = true ∨ (0 : Int) = 17 from .inl hc), hc, cond_true]
      dsimp only
      rw [cond_true, (hop (-1) false).1]
      dsimp only
      rw [(hop (-1) false).2]
      dsimp only [cond_true, cond_false]
      rw [decide_eq_true rfl, cond_true, cond_false, if_pos (hlen _)]
    · rw [if_neg (show ¬ (e.fCrash = true ∨ (0 : Int) = 17) by rintro (h | h); exact hc h; cases h), show e.fCrash = false from by simpa using hc, cond_false]
      dsimp only
      rw [decide_eq_false (by decide), cond_false, if_pos (hlen _), if_pos (show (0 : Int) = 0 from rfl), wrap_id (by omega) (by have := hi.nx; have := he.r5; omega)]
      rfl
  · rw [h27]
    dsimp only
    rw [decide_eq_false (by decide), cond_false, decide_eq_true rfl, cond_true, m44_ok (a4 _ _)]
    dsimp only [cond_true, cond_false]
    rw [if_pos (show e.fCrash = true ∨ (17 : Int) = 17 from .inr rfl)]
    have : (bif e.fCrash then some true else some true) = some true := by cases e.fCrash <;> rfl
    rw [this]
    dsimp only
    rw [cond_true, (hop (-1) dn).1]
    dsimp only
    rw [(hop (-1) dn).2]
    dsimp only [cond_true, cond_false]
    rw [decide_eq_true rfl, cond_true, cond_false, if_pos (hlen _)]
end
/-- a history -/
def runF : Pl → List GEvent → List Outcome
  | _, [] => []
  | s, e :: es => (stepF s e).1 :: runF (stepF s e).2 es
def endF : Pl → List GEvent → Pl
  | s, [] => s
  | s, e :: es => endF (stepF s e).2 es
theorem a22_eq (l : List GEvent) (hl : l.length ≤ 12) (hv : ∀ e ∈ l, okE e) : ∀ (es : List GEvent) (i : Nat) (s : Pl) (out : List Outcome), l.drop i = es → i ≤ l.length → Inv s i → out.length = i →
    a22_0 ⟨out, s.n, s.next, l, l.length, i, h0, dk s.L⟩ = some ⟨out ++ runF s es, (endF s es).n, (endF s es).next, l, l.length, l.length, h0, dk (endF s es).L⟩ := by
  intro es
  induction es with
  | nil =>
    intro i s out hd hi hs ho
    have : i = l.length := by have := congrArg List.length hd; simp at this; omega
    subst this
    rw [runF, List.append_nil]
    exact advG_stop fun r => by
      unfold n22_0
      dsimp only
      rw [decide_eq_false (by omega)]
      simp
  | cons e es ih =>
    intro i s out hd hi hs ho
    have hil : i < l.length := by have := congrArg List.length hd; simp at this; omega
    have he : l[i]! = e := by
      rw [getElem!_pos l i hil]
      have := congrArg List.head? hd
      rw [List.head?_drop, List.getElem?_eq_getElem hil] at this
      simpa using this
    have hd' : l.drop (i + 1) = es := by
      have := congrArg List.tail hd
      rw [List.tail_drop] at this
      simpa using this
    have hok : okE e := hv e (by rw [← he]; exact get_mem hil)
    have hn := n22_eq hs (by omega) hok out (by omega) l i (by omega) hil he
    have h1 : a22_0 ⟨out, s.n, s.next, l, l.length, i, h0, dk s.L⟩ = a22_0 ⟨out ++ [(stepF s e).1], (stepF s e).2.n, (stepF s e).2.next, l, l.length, ((i + 1 : Nat) : Int), h0, dk (stepF s e).2.L⟩ := advG_step hn
    rw [h1, ih (i + 1) (stepF s e).2 _ hd' (by omega) (stepF_inv hs (by omega) hok) (by simp [ho]), List.append_assoc]
    rfl
def s0 : Pl := ⟨(zd.set 0 (encH h0 0)).set 0 (encH h0 1), 1, 0⟩
theorem sec0 : Sec (zd.set 0 (encH h0 0)) := zd_sec.set 0 (hd_len _) (encH_byt _ _)
theorem inv0 : Inv s0 0 := ⟨sec0.set 0 (hd_len _) (encH_byt _ _), rfl, by decide, by decide, by decide⟩
theorem rec0 : recsF (zd.set 0 (encH h0 0)) 0 = [] := by
  unfold recsF
  have : (zd.set 0 (encH h0 0)).drop 1 = zs :: List.replicate 10 zs := rfl
  rw [this, rcs, if_neg]
  intro h
  have := h.2.2
  omega
theorem m22_eq (l : List GEvent) (hl : l.length ≤ 12) (hv : ∀ e ∈ l, okE e) : m22 l = some (runF s0 l, true) := by
  have ha := a22_eq l hl hv l 0 s0 [] rfl (by omega) inv0 rfl
  unfold m22
  rw [m25_eq]
  dsimp only
  rw [m24_eq]
  dsimp only
  rw [decide_eq_true rfl, cond_true, cond_false, m26_eq sec0 0 (by omega) (by omega) rfl, rec0]
  dsimp only [cond_true, cond_false]
  rw [decide_eq_true rfl]
  dsimp only [cond_true, cond_false]
  rw [show decide (((([] : List Record).length : Nat) : Int) = 0) = true from rfl, show decide ((0 : Int) + 1 = 1) = true from rfl]
  dsimp only [cond_true, cond_false]
  have ha' : a22_0 ⟨[], 0 + 1, 0, l, l.length, 0, h0, dk ((zd.set 0 (encH h0 0)).set 0 (encH h0 (0 + 1)))⟩ = some ⟨[] ++ runF s0 l, (endF s0 l).n, (endF s0 l).next, l, l.length, l.length, h0, dk (endF s0 l).L⟩ := ha
  rw [ha']
  dsimp only
  rw [decide_eq_false (by omega), cond_false, List.nil_append]
end Go.Proofs.Ytgdahkddhecloaa.S
end
