/- Numbers and bits in the walks of plans. No condition. -/
import Derived.Test.YtnlbcgonegeofaaPlNe
import Derived.Test.YtnlbcgonegeofaaBits
namespace Go.Proofs.Ytnlbcgonegeofaa
open Go.RowKit
set_option linter.unusedVariables false
set_option linter.unusedSimpArgs false

theorem and50 {x : Int} (h : 0 ≤ x ∧ x < 18446744073709551616) : Go.bits .and .u64 x 1125899906842623 = x % 1125899906842624 :=
  bits_mask .u64 64 (by decide) (fun n h0 h1 => by rw [IntKind.wrap_u64]; omega) 50 (by decide) x h.1 h.2
theorem andi30 (x : Int) : Go.bits .and .i64 x 1073741823 = x % 1073741824 := and_mask 30 1073741823 (by decide) (by decide) x
theorem andi10 (x : Int) : Go.bits .and .i64 x 1023 = x % 1024 := and_mask 10 1023 (by decide) (by decide) x
theorem isum {a b d : Nat} (h : a + b = d) (hd : d < 9223372036854775808) : IntKind.i64.wrap ((a : Int) + (b : Int)) = (d : Int) ∧ wrap64 ((a : Int) + (b : Int)) = (d : Int) := ⟨by rw [IntKind.wrap_i64]; omega, by unfold wrap64; omega⟩
theorem isuc {a d : Nat} (h : a + 1 = d) (hd : d < 9223372036854775808) : IntKind.i64.wrap ((a : Int) + 1) = (d : Int) ∧ wrap64 ((a : Int) + 1) = (d : Int) := ⟨by rw [IntKind.wrap_i64]; omega, by unfold wrap64; omega⟩
theorem isuc' {a d : Nat} (h : a + 1 = d) (hd : d < 9223372036854775808) : IntKind.i64.wrap (1 + (a : Int)) = (d : Int) ∧ wrap64 (1 + (a : Int)) = (d : Int) := ⟨by rw [IntKind.wrap_i64]; omega, by unfold wrap64; omega⟩
theorem imul {a b d : Nat} (h : a * b = d) (hd : d < 9223372036854775808) : IntKind.i64.wrap ((a : Int) * (b : Int)) = (d : Int) ∧ wrap64 ((a : Int) * (b : Int)) = (d : Int) := by
  rw [← Int.natCast_mul, h]; exact ⟨by rw [IntKind.wrap_i64]; omega, by unfold wrap64; omega⟩
theorem umul {a b d : Nat} (h : a * b = d) (hd : d < U64) : IntKind.u64.wrap ((a : Int) * (b : Int)) = (d : Int) := by
  unfold U64 at hd; rw [← Int.natCast_mul, h, wrapU (by omega)]

end Go.Proofs.Ytnlbcgonegeofaa
