/- The document's example of slabs. -/
import Derived.Test.YtlkhpkdndmlnaaaDoorNewI
import Derived.Test.YtlkhpkdndmlnaaaDoorNewP
import Derived.Test.YtlkhpkdndmlnaaaDoorHeldI
namespace Go.Proofs.YtlkhpkdndmlnaaaDoor
open Go.RowKit
set_option linter.unusedVariables false
set_option linter.unusedSimpArgs false
set_option linter.unusedSectionVars false
set_option maxRecDepth 100000

structure Al3S (w wr : World) (base top s b : Nat) (d0 d1 : RD) (base2 top2 s2 b2 : Nat) (e0 : RD) (v0 : List Int) (X0 : List Bool) (v1 : List Int) (X1 : List Bool) (v2 : List Pr) (X2 : List Bool) : Prop where
  S : SlabS iE pIE wr base top s b [d0, d1] [(v0, X0), (v1, X1)]
  P : SlabS prE pPE wr base2 top2 s2 b2 [e0] [(v2, X2)]
  B : Below w.heap.size w wr
  T : Tab w
  lo : w.heap.size ≤ base ∧ top ≤ base2 ∧ base2 ≤ wr.heap.size
section
variable {w wr w' : World} {base top s b : Nat} {d0 d1 : RD} {base2 top2 s2 b2 : Nat} {e0 : RD} {v0 : List Int} {X0 : List Bool} {v1 : List Int} {X1 : List Bool} {v2 : List Pr} {X2 : List Bool}
theorem Al3S.tab (h : Al3S w wr base top s b d0 d1 base2 top2 s2 b2 e0 v0 X0 v1 X1 v2 X2) : Tab wr := h.T.below h.B
theorem Al3S.below (h : Al3S w wr base top s b d0 d1 base2 top2 s2 b2 e0 v0 X0 v1 X1 v2 X2) (F : Below wr.heap.size wr w') : Al3S w w' base top s b d0 d1 base2 top2 s2 b2 e0 v0 X0 v1 X1 v2 X2 :=
  ⟨h.S.below F, h.P.below F, h.B.trans (F.mono h.B.size), h.T, h.lo.1, h.lo.2.1, Nat.le_trans h.lo.2.2 F.size⟩
theorem Al3S.r0 (h : Al3S w wr base top s b d0 d1 base2 top2 s2 b2 e0 v0 X0 v1 X1 v2 X2) : RegS iE wr d0.r b d0.off d0.n d0.p d0.g v0 X0 := h.S.reg 0 _ _ rfl rfl
theorem Al3S.r1 (h : Al3S w wr base top s b d0 d1 base2 top2 s2 b2 e0 v0 X0 v1 X1 v2 X2) : RegS iE wr d1.r b d1.off d1.n d1.p d1.g v1 X1 := h.S.reg 1 _ _ rfl rfl
theorem Al3S.rP (h : Al3S w wr base top s b d0 d1 base2 top2 s2 b2 e0 v0 X0 v1 X1 v2 X2) : RegS prE wr e0.r b2 e0.off e0.n e0.p e0.g v2 X2 := h.P.reg 0 _ _ rfl rfl
theorem Al3S.turn0 (h : Al3S w wr base top s b d0 d1 base2 top2 s2 b2 e0 v0 X0 v1 X1 v2 X2) {v' : List Int} {X' : List Bool} (R : RegS iE w' d0.r b d0.off d0.n d0.p d0.g v' X') (F : FrC (regF iE b d0.off d0.n d0.p d0.g) wr w') :
    Al3S w w' base top s b d0 d1 base2 top2 s2 b2 e0 v' X' v1 X1 v2 X2 := by
  have tp := h.S.tp.2.2 d0 (by simp)
  have ok := h.S.ok d0 (by simp)
  have k1 := ok.p; have k2 := ok.g; have k3 := ok.base; have k4 := h.lo; have k5 := h.S.tp; have k6 := h.S.sb; have k7 := h.B.size
  refine ⟨h.S.turn (k := 0) rfl R F, h.P.frc F (fun k o h1 h2 e => ?_), h.B.trans (F.below h.B.size (fun k o hk e => ?_)), h.T, h.lo.1, h.lo.2.1, Nat.le_trans h.lo.2.2 F.size⟩
  · rcases e with (e | e) | e
    · omega
    · omega
    · have := e.1; omega
  · rcases e with (e | e) | e
    · omega
    · omega
    · have := e.1; omega
theorem Al3S.turnP (h : Al3S w wr base top s b d0 d1 base2 top2 s2 b2 e0 v0 X0 v1 X1 v2 X2) {v' : List Pr} {X' : List Bool} (R : RegS prE w' e0.r b2 e0.off e0.n e0.p e0.g v' X') (F : FrC (regF prE b2 e0.off e0.n e0.p e0.g) wr w') :
    Al3S w w' base top s b d0 d1 base2 top2 s2 b2 e0 v0 X0 v1 X1 v' X' := by
  have ok := h.P.ok e0 (by simp)
  have k1 := ok.p; have k2 := ok.g; have k3 := ok.base; have k4 := h.lo; have k5 := h.S.tp; have k6 := h.P.sb; have k7 := h.B.size; have k8 := h.S.sb
  refine ⟨h.S.frc F (fun k o h1 h2 e => ?_), h.P.turn (k := 0) rfl R F, h.B.trans (F.below h.B.size (fun k o hk e => ?_)), h.T, h.lo.1, h.lo.2.1, Nat.le_trans h.lo.2.2 F.size⟩
  · rcases e with (e | e) | e
    · omega
    · omega
    · have := e.1; omega
  · rcases e with (e | e) | e
    · omega
    · omega
    · have := e.1; omega
end
theorem ne_f {X : List Bool} {j : Nat} (hj : j < X.length) (hb : X[j] = false) (hno : ∀ i (h : i < X.length), i < j → X[i] = true) : nextB X false 0 = some j :=
  nextB_some hj (Nat.zero_le _) hb (fun i hi _ h => by rw [hno i hi h]; decide)
/-- What Take does where the first free place is j. -/
theorem take_at {α : Type} {X : List Bool} {vs : List α} {j : Nat} (h : nextB X false 0 = some j) (v : α) : nextV X false 0 = j ∧ nextO X false 0 = true ∧ takeV vs X v = vs.set j v ∧ takeX X = X.set j true :=
  ⟨(nextO_some (k := 0) h).2, (nextO_some (k := 0) h).1, by unfold takeV; rw [h], by unfold takeX; rw [h]⟩
theorem take_no {α : Type} {X : List Bool} {vs : List α} (h : nextB X false 0 = none) (v : α) : nextV X false 0 = 0 ∧ nextO X false 0 = false ∧ takeV vs X v = vs ∧ takeX X = X :=
  ⟨(nextO_none (k := 0) h).2, (nextO_none (k := 0) h).1, by unfold takeV; rw [h], by unfold takeX; rw [h]⟩
theorem rowI1 (w : World) (t : TypeId) (xs : List Int) : RowAt (fun x : Int => [.int .i64 x]) 1 (w.alloc (.cells (xs.map (Value.int .i64)).toArray t)) (some ⟨w.heap.size, 0, none⟩) xs := row_new w _ t xs rfl

set_option maxHeartbeats 16000000 in
theorem alive03_c (w : World) (hT : Tab w) : Calls Tryd.prog 8 #[] w fun r w' => r = .returned (.bool true) ∧ Below w.heap.size w w' := by
  have HT := Lib.hid hT
  clear hT
  go_enter Tryd.func8, Tryd.ntmps8
  go_wp2_with fail
  have B0 := Lib.hid (blA (Below.refl w.heap.size w) (.cells #[.int .i64 2, .int .i64 3] 3))
  refine (new_I (cs := [2, 3]) (cc := 2) (row_new w #[.int .i64 2, .int .i64 3] 3 [2, 3] rfl) (by decide) (by decide)).mono ?_
  rintro e w1 ⟨s, b, ds, rfl, S, hn, F⟩
  obtain ⟨d0, d1, rfl, n0, n1⟩ : ∃ d0 d1, ds = [d0, d1] ∧ d0.n = 2 ∧ d1.n = 3 := by
    match ds, hn with
    | [d0, d1], hn => exact ⟨d0, d1, rfl, by simp [capsR, capR] at hn; exact hn.1, by simp [capsR, capR] at hn; exact hn.2⟩
    | [], hn => simp [capsR] at hn
    | [_], hn => simp [capsR] at hn
    | _ :: _ :: _ :: _, hn => simp [capsR] at hn
  rw [show fresh (0 : Int) [d0, d1] = [([0, 0], [false, false]), ([0, 0, 0], [false, false, false])] by simp [fresh, n0, n1, List.replicate]] at S
  have S1 := Lib.hid S
  have B1 := Lib.hid (B0.out.trans (F.mono B0.out.size))
  have hb1 := Lib.hid (B0.out.size)
  clear S F hn B0 n0 n1
  generalize (w.alloc (.cells #[.int .i64 2, .int .i64 3] 3)).heap.size = base at *
  go_wp2_with fail
  have B2 := Lib.hid (blA (Below.refl w1.heap.size w1) (.cells #[.int .i64 1] 3))
  refine (new_P (cs := [1]) (cc := 1) (row_new w1 #[.int .i64 1] 3 [1] rfl) (by decide) (by decide)).mono ?_
  rintro e w2 ⟨s2, b2, ds2, rfl, S, hn, F⟩
  obtain ⟨e0, rfl, n0⟩ : ∃ e0, ds2 = [e0] ∧ e0.n = 1 := by
    match ds2, hn with
    | [e0], hn => exact ⟨e0, rfl, by simp [capsR, capR] at hn; exact hn⟩
    | [], hn => simp [capsR] at hn
    | _ :: _ :: _, hn => simp [capsR] at hn
  rw [show fresh Pr.zero [e0] = [([Pr.zero], [false])] by simp [fresh, n0, List.replicate]] at S
  have A := Lib.hid (show Al3S w w2 base w1.heap.size s b d0 d1 (w1.alloc (.cells #[.int .i64 1] 3)).heap.size w2.heap.size s2 b2 e0 [0, 0] [false, false] [0, 0, 0] [false, false, false] [Pr.zero] [false] from
    ⟨S1.out.below (B2.out.trans (F.mono B2.out.size)), S, B1.out.trans ((B2.out.trans (F.mono B2.out.size)).mono B1.out.size), HT.out, hb1.out, B2.out.size, F.size⟩)
  clear S F hn B2 n0 S1 B1 hb1 HT
  generalize (w1.alloc (.cells #[.int .i64 1] 3)).heap.size = base2 at *
  generalize w1.heap.size = top at *
  generalize w2.heap.size = top2 at *
  clear w1
  go_wp2_with fail
  refine (region_I A.out.S (k := 0) (by simp)).mono ?_
  rintro e w' ⟨rfl, rfl⟩
  go_wp2_with fail
  refine (region_I A.out.S (k := 1) (by simp)).mono ?_
  rintro e w' ⟨rfl, rfl⟩
  go_wp2_with fail
  refine (region_P A.out.P (k := 0) (by simp)).mono ?_
  rintro e w' ⟨rfl, rfl⟩
  go_wp2_with fail
  refine (region_no_I A.out.S (k := 2) (.inr (by simp))).mono ?_
  rintro e w' ⟨rfl, rfl⟩
  go_wp2_with fail
  refine (region_I A.out.S (k := 0) (by simp)).mono ?_
  rintro e w' ⟨rfl, rfl⟩
  go_wp2_with fail
  have t := take_at (X := [false, false]) (vs := [0, 0]) (j := 0) (ne_f (by decide) rfl (by decide)) (7 : Int)
  refine (take_i A.out.r0 A.out.tab 7).mono ?_
  rintro e w' ⟨rfl, R, F⟩
  rw [t.2.2.1, t.2.2.2] at R
  rw [t.1, t.2.1]
  replace R : RegS iE w' d0.r b d0.off d0.n d0.p d0.g [7, 0] [true, false] := R
  replace A := Lib.hid (A.out.turn0 R F)
  clear R F t
  go_wp2_with fail
  have t := take_at (X := [true, false]) (vs := [7, 0]) (j := 1) (ne_f (by decide) rfl (by decide)) (8 : Int)
  refine (take_i A.out.r0 A.out.tab 8).mono ?_
  rintro e w' ⟨rfl, R, F⟩
  rw [t.2.2.1, t.2.2.2] at R
  rw [t.1, t.2.1]
  replace R : RegS iE w' d0.r b d0.off d0.n d0.p d0.g [7, 8] [true, true] := R
  replace A := Lib.hid (A.out.turn0 R F)
  clear R F t
  go_wp2_with fail
  have t := take_no (X := [true, true]) (vs := [7, 8]) (nextB_none (by decide)) (9 : Int)
  refine (take_i A.out.r0 A.out.tab 9).mono ?_
  rintro e w' ⟨rfl, R, F⟩
  rw [t.2.2.1, t.2.2.2] at R
  rw [t.1, t.2.1]
  replace R : RegS iE w' d0.r b d0.off d0.n d0.p d0.g [7, 8] [true, true] := R
  replace A := Lib.hid (A.out.turn0 R F)
  clear R F t
  go_wp2_with fail
  refine (at_i A.out.r0 1).mono ?_
  rintro e w' ⟨rfl, rfl⟩
  rw [show atV (0 : Int) [7, 8] [true, true] 1 = 8 by rfl, show hasB [true, true] 1 = true by rfl]
  go_wp2_with fail
  refine (give_i A.out.r0 0).mono ?_
  rintro e w' ⟨rfl, R, F⟩
  rw [show giveV (0 : Int) [7, 8] [true, true] 0 = [0, 8] by rfl, show dropL [true, true] 0 = [false, true] by rfl] at R
  replace A := Lib.hid (A.out.turn0 R F)
  clear R F
  go_wp2_with fail
  have t := take_at (X := [false, true]) (vs := [0, 8]) (j := 0) (ne_f (by decide) rfl (by decide)) (5 : Int)
  refine (take_i A.out.r0 A.out.tab 5).mono ?_
  rintro e w' ⟨rfl, R, F⟩
  rw [t.2.2.1, t.2.2.2] at R
  rw [t.1, t.2.1]
  replace R : RegS iE w' d0.r b d0.off d0.n d0.p d0.g [5, 8] [true, true] := R
  replace A := Lib.hid (A.out.turn0 R F)
  clear R F t
  go_wp2_with fail
  refine (region_P A.out.P (k := 0) (by simp)).mono ?_
  rintro e w' ⟨rfl, rfl⟩
  go_wp2_with fail
  have t := take_at (X := [false]) (vs := [Pr.zero]) (j := 0) (ne_f (by decide) rfl (by decide)) (⟨1, 2, ⟨#[120]⟩⟩ : Pr)
  refine (take_P A.out.rP A.out.tab ⟨1, 2, ⟨#[120]⟩⟩).mono ?_
  rintro e w' ⟨rfl, R, F⟩
  rw [t.2.2.1, t.2.2.2] at R
  rw [t.1, t.2.1]
  replace R : RegS prE w' e0.r b2 e0.off e0.n e0.p e0.g [⟨1, 2, ⟨#[120]⟩⟩] [true] := R
  replace A := Lib.hid (A.out.turnP R F)
  clear R F t
  go_wp2_with fail
  refine (region_P A.out.P (k := 0) (by simp)).mono ?_
  rintro e w' ⟨rfl, rfl⟩
  go_wp2_with fail
  refine (at_P A.out.rP 0).mono ?_
  rintro e w3 ⟨rfl, F⟩
  rw [show atV Pr.zero [(⟨1, 2, ⟨#[120]⟩⟩ : Pr)] [true] 0 = ⟨1, 2, ⟨#[120]⟩⟩ by rfl, show hasB [true] 0 = true by rfl, show Pr.val ⟨1, 2, ⟨#[120]⟩⟩ = .agg #[.int .u64 1, .int .u64 2, .string ⟨#[120]⟩] from rfl]
  replace A := Lib.hid (A.out.below F)
  clear F
  go_wp2_with fail
  replace A := Lib.hid (A.out.below (blA (Below.refl w3.heap.size w3) (.cells #[.int .u64 1, .int .u64 2, .string ⟨#[120]⟩] 39)))
  refine (countR_i A.out.r0).mono ?_
  rintro e w' ⟨rfl, rfl⟩
  rw [show (([true, true] : List Bool).count true : Nat) = 2 by decide]
  go_wp2_with fail
  refine (roomR_i A.out.r0).mono ?_
  rintro e w' ⟨rfl, rfl⟩
  rw [show d0.n = 2 from A.out.r0.lx.symm]
  go_wp2_with fail
  refine (region_I A.out.S (k := 1) (by simp)).mono ?_
  rintro e w' ⟨rfl, rfl⟩
  go_wp2_with fail
  refine (countR_i A.out.r1).mono ?_
  rintro e w' ⟨rfl, rfl⟩
  rw [show (([false, false, false] : List Bool).count true : Nat) = 0 by decide]
  go_wp2_with fail
  refine (regions_I A.out.S).mono ?_
  rintro e w' ⟨rfl, rfl⟩
  rw [show [d0, d1].length = 2 from rfl]
  go_wp2_with fail
  refine (held_I A.out.r0 A.out.tab).mono ?_
  rintro e w4 ⟨v, rfl, O, F⟩
  obtain ⟨Av, cv, rfl⟩ := O.slice
  rw [show (plcs [true, true]).length = 2 by decide]
  replace A := Lib.hid (A.out.below F)
  clear F O
  go_wp2
  go_ret
  exact ⟨rfl, A.out.B⟩
end Go.Proofs.YtlkhpkdndmlnaaaDoor
