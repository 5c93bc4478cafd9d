/- SlabPlays: is a region the document's? It is. -/
import Derived.Test.YtlkhpkdndmlnaaaDoorDs3
namespace Go.Proofs.YtlkhpkdndmlnaaaDoor
open Go.RowKit
set_option linter.unusedVariables false
set_option linter.unusedSimpArgs false
set_option linter.unusedSectionVars false
set_option maxRecDepth 100000

set_option maxHeartbeats 8000000 in
theorem same3_c {w : World} {r b off n p g c m : Nat} {A : Option Addr} {vs : List Int} {X : List Bool} (h : RegS iE w r b off n p g vs X) (hT : Tab w) (hr : RowAt plE.f 2 w A (pl vs X)) (hm : m = X.length) (k : Int) :
    Calls Tryd.prog 30 #[.pointer (some ⟨r, 0, none⟩), .slice A m c, .int .i64 k] w fun e w' => e = .returned (.bool true) ∧ Below w.heap.size w w' := by
  have hlv : vs.length = X.length := by rw [h.lv, h.lx]
  have hx4 := h.set.lt.2.2.2
  have hmn : n = m := by rw [hm, h.lx]
  obtain ⟨P, hP⟩ : ∃ P, P = pl vs X := ⟨_, rfl⟩
  have hPl : P.length = m := by rw [hP, pl_length hlv, hm]
  have hPi : isL P = X := by rw [hP, isL_pl hlv]
  rw [← hP] at hr
  have hP4 : P.length ≤ 4096 := by rw [hPl, hm]; omega
  have R0 := Lib.hid h; have T0 := Lib.hid hT; have RP := Lib.hid hr
  replace hP := Lib.hid hP; replace hPi := Lib.hid hPi
  have hasc := fun w (hr : RowAt plE.f 2 w A P) => has_r (c := c) hr k
  rw [hPl, hPi.out] at hasc
  have hasH := Lib.hid hasc
  have hPl' := Lib.hid hPl
  have hcl := Lib.hid (plcs_length X)
  have hcm : X.count true ≤ 4096 := Nat.le_trans List.count_le_length hx4
  obtain ⟨cn, hcn⟩ : ∃ z, z = X.count true := ⟨_, rfl⟩
  rw [← hcn] at hcl hcm
  subst hmn
  clear hasc h hT hr
  replace hcn := Lib.hid hcn
  have TAIL : ∀ (W : Int), True := fun _ => trivial
  have AV : (hasB X k = false ∧ atV 0 vs X k = 0) ∨ (hasB X k = true ∧ ∃ j : Nat, k = j ∧ j < n ∧ ∃ b o, A = some ⟨b, o, none⟩ ∧ w.cell? ⟨b, o + j * 2 + 1, none⟩ = some (.int .i64 (atV 0 vs X k))) := by
    cases hh : hasB X k with
    | false => exact .inl ⟨rfl, by unfold atV; rw [hh]; rfl⟩
    | true =>
      obtain ⟨j, rfl, hj⟩ := has_at hh
      refine .inr ⟨rfl, j, rfl, by omega, ?_⟩
      have hjP : j < P.length := by rw [hPl'.out]; omega
      obtain ⟨bb, o, e, -, -, c1⟩ := RP.out.pl hjP
      refine ⟨bb, o, e, ?_⟩
      rw [c1]
      congr 2
      have hjv : j < vs.length := by omega
      unfold atV
      rw [hh]
      have : P[j].v = vs[j] := by
        have := hP.out
        subst this
        exact pl_at hjP hjv
      rw [this]
      simp [hjv]
  clear TAIL hPl hm
  have at0 := Lib.hid (at_i R0.out k)
  have rm0 := Lib.hid (roomR_i R0.out)
  have hs0 := Lib.hid (hasR_i R0.out k)
  have ct0 := countR_i R0.out
  rw [← hcn.out] at ct0
  replace ct0 := Lib.hid ct0
  have hl0 := fun w' (F : Below w.heap.size w w') => held_r (c := c) (RP.out.below F) hP4
  rw [hPi.out, hPl'.out] at hl0
  replace hl0 := Lib.hid hl0
  obtain ⟨av, hav⟩ : ∃ z, z = atV 0 vs X k := ⟨_, rfl⟩
  rw [← hav] at at0 AV
  have has1 := Lib.hid (hasH.out w RP.out)
  obtain ⟨hb, hhb⟩ : ∃ z, z = hasB X k := ⟨_, rfl⟩
  rw [← hhb] at at0 AV has1 hs0
  have hTH := T0
  replace hav := Lib.hid hav; replace hhb := Lib.hid hhb
  clear hasH
  have eh : (hb == hb) = true := by simp
  go_enter Tryd.func30, Tryd.ntmps30
  rcases AV with ⟨rfl, rfl⟩ | ⟨rfl, j, rfl, hj, bb, o, rfl, c1⟩
  all_goals
    go_wp2_with fail
    refine at0.out.mono ?_
    rintro e w1 ⟨rfl, rfl⟩
    clear at0
    go_wp2_with fail
    refine has1.out.mono ?_
    rintro e w1 ⟨rfl, rfl⟩
    go_wp2_with fail
    refine rm0.out.mono ?_
    rintro e w1 ⟨rfl, rfl⟩
    clear rm0
    go_wp2_with fail
    refine has1.out.mono ?_
    rintro e w1 ⟨rfl, rfl⟩
    clear has1
    go_wp2_with fail
    refine hs0.out.mono ?_
    rintro e w1 ⟨rfl, rfl⟩
    clear hs0
    go_wp2_with fail
    refine ct0.out.mono ?_
    rintro e w1 ⟨rfl, rfl⟩
    clear ct0
    go_wp2_with fail
    refine (hl0.out w (Below.refl _ _)).mono ?_
    rintro e w1 ⟨v1, rfl, O1, F1⟩
    obtain ⟨A1, k1, rfl, P1, -, -⟩ := O1.form
    replace F1 := Lib.hid F1
    rw [hcl.out]
    clear O1 P1
    go_wp2_with fail
    refine (held_I (R0.out.below F1.out) (T0.out.below F1.out)).mono ?_
    rintro e w2 ⟨v2, rfl, O2, F2⟩
    obtain ⟨A2, k2, rfl, P2, -, -⟩ := O2.form
    replace F2 := Lib.hid (F1.out.trans (F2.mono F1.out.size))
    replace P2 := Lib.hid P2
    rw [hcl.out]
    clear O2
    go_wp2_with fail
    refine (hl0.out w2 F2.out).mono ?_
    rintro e w3 ⟨v3, rfl, O3, F3⟩
    obtain ⟨A3, k3, rfl, P3, -, -⟩ := O3.form
    replace P2 := Lib.hid (P2.out.below F3)
    replace F3 := Lib.hid (F2.out.trans (F3.mono F2.out.size))
    have hsm := same_c (ca := k2) (cb := k3) P2.out P3 (by rw [hcl.out]; omega) (by rw [hcl.out]; omega)
    rw [hcl.out, decide_eq_true rfl] at hsm
    replace hsm := Lib.hid hsm
    rw [hcl.out]
    clear O3 P3
    go_wp2_with fail
    refine hsm.out.mono ?_
    rintro e w4 ⟨rfl, F4⟩
    replace F4 := Lib.hid (F3.out.trans (F4.mono F3.out.size))
    go_wp2
    go_ret
    exact ⟨rfl, F4.out⟩
end Go.Proofs.YtlkhpkdndmlnaaaDoor
