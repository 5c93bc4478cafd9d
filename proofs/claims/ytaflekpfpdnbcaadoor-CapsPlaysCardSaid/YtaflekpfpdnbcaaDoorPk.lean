/- A handle's bits. -/
import Derived.Test.YtaflekpfpdnbcaaDoorBits
import Derived.Test.YtaflekpfpdnbcaaDoorBitP
import Derived.Test.YtaflekpfpdnbcaaDoorBitS
import Derived.Test.YtaflekpfpdnbcaaDoorEq
namespace Go.Proofs.YtaflekpfpdnbcaaDoor
open Go.RowKit
set_option linter.unusedVariables false
set_option linter.unusedSimpArgs false
set_option linter.unusedSectionVars false
set_option maxRecDepth 100000

theorem pack_bits (s g : Nat) (r : Int) (hs : s < 65536) (hg : g < 1099511627776) :
    bits .or .u64 (bits .or .u64 ((g : Int) * 16777216) (IntKind.u64.wrap (IntKind.u64.wrap (bits .and .i64 (s : Int) 65535) * 256))) (IntKind.u64.wrap (bits .and .i64 r 255)) = ((g * 16777216 + s * 256 + (r % 256).toNat : Nat) : Int) := by
  have h1 : bits .and .i64 (s : Int) 65535 = (s : Int) := by
    have := and_mask 16 65535 (by decide) (by decide) (s : Int)
    rw [this]; omega
  have h2 : bits .and .i64 r 255 = (((r % 256).toNat : Nat) : Int) := by
    have := and_mask 8 255 (by decide) (by decide) r
    rw [this, show ((2 ^ 8 : Nat) : Int) = 256 from rfl]; omega
  obtain ⟨R, hR⟩ : ∃ R : Nat, R = (r % 256).toNat := ⟨_, rfl⟩
  rw [← hR] at h2 ⊢
  have hR2 : R < 256 := by omega
  rw [h1, h2, IntKind.wrap_u64, IntKind.wrap_u64, IntKind.wrap_u64]
  rw [show (s : Int) % 18446744073709551616 = s by omega, show ((s : Int) * 256) % 18446744073709551616 = ((s * 256 : Nat) : Int) by omega, show (R : Int) % 18446744073709551616 = R by omega, show (g : Int) * 16777216 = ((g * 16777216 : Nat) : Int) by omega]
  rw [bits_or_u64_nat _ _ (by omega) (by omega)]
  have e1 : g * 16777216 ||| s * 256 = g * 16777216 + s * 256 := by
    have := Nat.two_pow_add_eq_or_of_lt (i := 24) (b := s * 256) (by omega) g
    rw [show (2 : Nat) ^ 24 * g = g * 16777216 by omega] at this
    exact this.symm
  rw [e1, bits_or_u64_nat _ _ (by omega) (by omega)]
  have e2 : (g * 16777216 + s * 256) ||| R = g * 16777216 + s * 256 + R := by
    have := Nat.two_pow_add_eq_or_of_lt (i := 8) (b := R) (by omega) (g * 65536 + s)
    rw [show (2 : Nat) ^ 8 * (g * 65536 + s) = g * 16777216 + s * 256 by omega] at this
    exact this.symm
  rw [e2]
theorem parts_bits (h : Nat) (hh : h < 18446744073709551616) : wrap64 (bits .and .u64 ((h : Int) / 256) 65535) = ((h / 256 % 65536 : Nat) : Int) ∧ wrap64 (bits .and .u64 (h : Int) 255) = ((h % 256 : Nat) : Int) := by
  have a1 := bits_and_u64_nat (h / 256) 65535 (by omega) (by decide)
  have a2 := bits_and_u64_nat h 255 hh (by decide)
  have m1 : h / 256 &&& 65535 = h / 256 % 65536 := Nat.and_two_pow_sub_one_eq_mod _ 16
  have m2 : h &&& 255 = h % 256 := Nat.and_two_pow_sub_one_eq_mod _ 8
  rw [m1] at a1
  rw [m2] at a2
  rw [show (h : Int) / 256 = ((h / 256 : Nat) : Int) by omega]
  rw [show bits .and .u64 ((h / 256 : Nat) : Int) 65535 = _ from a1, show bits .and .u64 (h : Int) 255 = _ from a2]
  constructor <;> (unfold wrap64; omega)
theorem pack_c (w : World) (s g : Nat) (r : Int) (hs : s < 65536) (hg : g < 1099511627776) :
    Calls Tryd.prog 16 #[.int .i64 s, .int .i64 g, .int .i64 r] w fun e w' => e = .returned (.int .u64 ((g * 16777216 + s * 256 + (r % 256).toNat : Nat) : Int)) ∧ w = w' := by
  have hp := Lib.hid (pack_bits s g r hs hg)
  go_enter Tryd.func16, Tryd.ntmps16
  go_wp2
  go_ret
  exact ⟨by rw [hp.out]; rfl, rfl⟩
theorem parts_c (w : World) (h : Nat) (hh : h < 18446744073709551616) :
    Calls Tryd.prog 17 #[.int .u64 h] w fun e w' => e = .returned (.tuple #[.int .i64 ((h / 256 % 65536 : Nat) : Int), .int .u64 ((h / 16777216 : Nat) : Int), .int .i64 ((h % 256 : Nat) : Int)]) ∧ w = w' := by
  have hp := Lib.hid (parts_bits h hh)
  go_enter Tryd.func17, Tryd.ntmps17
  go_wp2
  rw [hp.out.1, hp.out.2]
  refine bodyPost_ret (results_tmp3 rfl _ _ _) rfl ?_
  exact ⟨rfl, rfl⟩
end Go.Proofs.YtaflekpfpdnbcaaDoor
