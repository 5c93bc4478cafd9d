/- CapsBits. -/
import Derived.Test.YtaflekpfpdnbcaaDoorAl5
namespace Go.Proofs.YtaflekpfpdnbcaaDoor
open Go.RowKit
set_option linter.unusedVariables false
set_option linter.unusedSimpArgs false
set_option linter.unusedSectionVars false
set_option maxRecDepth 100000

theorem bits5_c (w : World) (s g r : Nat) (hs : s < 65536) (hg : g < 1099511627775) (hr : r < 256) :
    Calls Tryd.prog 18 #[.int .i64 s, .int .i64 g, .int .i64 r] w fun e w' => e = .returned (.int .u64 ((g * 16777216 + s * 256 + r : Nat) : Int)) ∧ w = w' := by
  have h1 : IntKind.u64.wrap ((g : Int) * 16777216) = ((g * 16777216 : Nat) : Int) := by rw [IntKind.wrap_u64]; omega
  go_enter Tryd.func18, Tryd.ntmps18
  go_wp2
  go_ret
  refine ⟨?_, rfl⟩
  show Ending.returned (.int .u64 _) = Ending.returned (.int .u64 _)
  congr 2
theorem wf_u64 {a : Int} (h : (Lit.int .u64 a).wf = true) : 0 ≤ a ∧ a < 18446744073709551616 := by
  have h1 : IntKind.u64.min ≤ a ∧ a ≤ IntKind.u64.max := by simpa [Lit.wf] using h
  rw [show IntKind.u64.min = 0 by decide, show IntKind.u64.max = 18446744073709551615 by decide] at h1
  omega
theorem mask_nat (j : Nat) (m : Int) (hm : (bv m).toNat = 2 ^ j - 1) (hj : j < 64) (a : Int) : ∃ K : Nat, bits .and .i64 a m = (K : Int) ∧ K < 2 ^ j := by
  have := and_mask j m hm hj a
  have hp : (0 : Int) < ((2 ^ j : Nat) : Int) := by exact_mod_cast Nat.two_pow_pos j
  refine ⟨(a % (2 ^ j : Nat)).toNat, by rw [this, Int.toNat_of_nonneg (Int.emod_nonneg _ (by omega))], ?_⟩
  have h1 := Int.emod_lt_of_pos a hp
  have h2 := Int.emod_nonneg a (show ((2 ^ j : Nat) : Int) ≠ 0 by omega)
  omega

set_option maxHeartbeats 8000000 in
theorem bits5_walk (a0 a1 a2 : Int) (h : Int) (hwf : (Lit.int .u64 h).wf = true) (w : World) (hT : Tab w) :
    Calls Tryd.prog 4 #[.int .i64 a0, .int .i64 a1, .int .i64 a2, .int .u64 h] w fun e w' => e = .returned (.bool true) ∧ Below w.heap.size w w' := by
  have hw := wf_u64 hwf
  clear hwf
  obtain ⟨H, rfl⟩ := Int.eq_ofNat_of_zero_le hw.1
  obtain ⟨s, e0, hs⟩ := mask_nat 16 65535 (by decide) (by decide) a0
  obtain ⟨g, e1, hg⟩ := mask_nat 24 16777215 (by decide) (by decide) a1
  obtain ⟨r, e2, hr⟩ := mask_nat 8 255 (by decide) (by decide) a2
  have hH : H < 18446744073709551616 := by omega
  replace hs : s < 65536 := hs
  replace hg : g < 16777216 := hg
  replace hr : r < 256 := hr
  have al := Lib.hid (alive05_c w hT)
  have pk := fun w => pack_c w s g (r : Int) hs (by omega)
  have bt := fun w => bits5_c w s g r hs (by omega) hr
  rw [show ((r : Int) % 256).toNat = r by omega] at pk
  obtain ⟨b, hb⟩ : ∃ b, b = g * 16777216 + s * 256 + r := ⟨_, rfl⟩
  rw [← hb] at pk bt
  have pt := fun w => parts_c w b (by omega)
  rw [show b / 256 % 65536 = s by omega, show b / 16777216 = g by omega, show b % 256 = r by omega] at pt
  have ph := fun w => parts_c w H hH
  obtain ⟨s', hs'⟩ : ∃ s, s = H / 256 % 65536 := ⟨_, rfl⟩
  obtain ⟨g', hg'⟩ : ∃ s, s = H / 16777216 := ⟨_, rfl⟩
  obtain ⟨r', hr'⟩ : ∃ s, s = H % 256 := ⟨_, rfl⟩
  rw [← hs', ← hg', ← hr'] at ph
  have pk2 := fun w => pack_c w s' g' (r' : Int) (by omega) (by omega)
  rw [show ((r' : Int) % 256).toNat = r' by omega, show g' * 16777216 + s' * 256 + r' = H by omega] at pk2
  have hs2 : s' ≤ 65535 := by omega
  have hr2 : r' ≤ 255 := by omega
  have hg2 : g' < 1099511627776 := by omega
  have esh : (H : Int) / 16777216 = (g' : Int) := by omega
  have d1 : decide ((0 : Int) ≤ (s' : Int)) = true := decide_eq_true (by omega)
  have d2 : decide ((s' : Int) ≤ 65535) = true := decide_eq_true (by omega)
  have d3 : decide ((0 : Int) ≤ (r' : Int)) = true := decide_eq_true (by omega)
  have d4 : decide ((r' : Int) ≤ 255) = true := decide_eq_true (by omega)
  have d6 : decide (s' ≤ 65535) = true := decide_eq_true (by omega)
  have d7 : decide (r' ≤ 255) = true := decide_eq_true (by omega)
  have q1 : ((s : Int) != (s : Int)) = false := by simp
  have q2 : ((g : Int) != (g : Int)) = false := by simp
  have q3 : ((r : Int) != (r : Int)) = false := by simp
  have q4 : ((b : Int) != (b : Int)) = false := by simp
  have way : decide ((16777215 : Int) < (g' : Int)) = true ∧ decide (16777215 < g') = true ∨ decide ((16777215 : Int) < (g' : Int)) = false ∧ decide (16777215 < g') = false := by
    by_cases h : 16777215 < g'
    · exact .inl ⟨decide_eq_true (by omega), decide_eq_true h⟩
    · exact .inr ⟨decide_eq_false (by omega), decide_eq_false h⟩
  replace pk := Lib.hid pk; replace bt := Lib.hid bt; replace pt := Lib.hid pt; replace ph := Lib.hid ph; replace pk2 := Lib.hid pk2
  replace hb := Lib.hid hb; replace hs' := Lib.hid hs'; replace hg' := Lib.hid hg'; replace hr' := Lib.hid hr'
  clear hT hw
  go_enter Tryd.func4, Tryd.ntmps4
  go_wp2_with fail
  refine al.out.mono ?_
  rintro e w1 ⟨rfl, F⟩
  replace F := Lib.hid F
  go_wp2_with fail
  refine (pk.out w1).mono ?_
  rintro e w2 ⟨rfl, rfl⟩
  go_wp2_with fail
  refine (pt.out w1).mono ?_
  rintro e w2 ⟨rfl, rfl⟩
  go_wp2_with fail
  refine (bt.out w1).mono ?_
  rintro e w2 ⟨rfl, rfl⟩
  go_wp2_with fail
  refine (ph.out w1).mono ?_
  rintro e w2 ⟨rfl, rfl⟩
  rcases way with ⟨x1, x2⟩ | ⟨x1, x2⟩
  · go_wp2
    go_ret
    exact ⟨rfl, F.out⟩
  · go_wp2_with fail
    refine (pk2.out w1).mono ?_
    rintro e w2 ⟨rfl, rfl⟩
    go_wp2
    go_ret
    exact ⟨rfl, F.out⟩
end Go.Proofs.YtaflekpfpdnbcaaDoor
