/- The document's answer on plans: At. No condition. -/
import Derived.Test.YtnlbcgonegeofaaPlE
namespace Go.Proofs.Ytnlbcgonegeofaa
open Go.RowKit
set_option linter.unusedVariables false
set_option linter.unusedSimpArgs false
set_option maxRecDepth 100000

/-- What the walk reads of a remainder. -/
theorem rem_facts {a c : Nat} (hc : 0 < c) : ∃ q, q = a % c ∧ (a : Int) % (c : Int) = (q : Int) ∧ Int.tmod (a : Int) (c : Int) = (q : Int) ∧ a % c = q ∧ ((c : Int) == 0) = false ∧ ¬ (c : Int) = 0 ∧ ¬ c = 0 ∧ q < c := by
  refine ⟨a % c, rfl, by omega, ?_, rfl, beq_eq_false_iff_ne.mpr (by omega), by omega, by omega, Nat.mod_lt _ hc⟩
  rw [Int.tmod_eq_emod_of_nonneg (by omega)]; omega
theorem div_facts {a c : Nat} (hc : 0 < c) : ∃ q, q = a / c ∧ (a : Int) / (c : Int) = (q : Int) ∧ Int.tdiv (a : Int) (c : Int) = (q : Int) ∧ a / c = q ∧ ((c : Int) == 0) = false ∧ ¬ (c : Int) = 0 ∧ ¬ c = 0 := by
  refine ⟨a / c, rfl, (Int.natCast_ediv a c).symm, ?_, rfl, beq_eq_false_iff_ne.mpr (by omega), by omega, by omega⟩
  rw [Int.tdiv_eq_ediv_of_nonneg (by omega)]; exact (Int.natCast_ediv a c).symm

theorem rat_zero {w : World} {c : Nat} {A : Option Addr} {xs : List Sl} :
    Calls Try.prog 14 #[.slice A xs.length c, .int .u64 0] w fun e w' => e = .returned (.tuple #[.int .i64 0, .bool false]) ∧ ∃ m, w' = w.drewN m := by
  go_enter Try.func14, Try.ntmps14
  go_wp2
  go_ret2
  exact ⟨rfl, 0, rfl⟩

set_option maxHeartbeats 2000000 in
theorem rat_c {w : World} {c : Nat} {A : Option Addr} {xs : List Sl} (g : Gd xs) (hr : SlA w A xs) {t : Nat} (ht : t < U64) :
    Calls Try.prog 14 #[.slice A xs.length c, .int .u64 t] w fun e w' => e = .returned (.tuple #[.int .i64 (atO xs t), .bool (atE xs t)]) ∧ ∃ m, w' = w.drewN m := by
  rcases Nat.eq_zero_or_pos t with h0 | h0
  · subst h0; exact rat_zero
  obtain ⟨T, hT⟩ : ∃ T, T = t - 1 := ⟨_, rfl⟩
  obtain ⟨q, hq, q1, q2, q3, q4, q5, q6, q7⟩ := rem_facts (a := T) (cyc_pos g)
  have e0 : ((t : Int) == 0) = false := beq_eq_false_iff_ne.mpr (by omega)
  have e1 : IntKind.u64.wrap ((t : Int) - 1) = (T : Int) := by unfold U64 at ht; rw [wrapU (by omega)]; omega
  have e2 : IntKind.u64.wrap (q : Int) = (q : Int) := wrapU (by have := cyc_bd g; omega)
  have e3 : IntKind.u64.wrap ((q : Int) + 1) = ((q + 1 : Nat) : Int) := by rw [wrapU (by have := cyc_bd g; omega)]; omega
  have H := Lib.hid hr
  have G := Lib.hid g
  have hl := g.small
  have hqT := Lib.hid (show q = (t - 1) % cyc xs by rw [hq, hT])
  have hqc := Lib.hid q7
  have ht2 := Lib.hid (And.intro ht h0)
  clear hr g hq hT ht h0 q7
  go_enter Try.func14, Try.ntmps14
  go_wp2_with (first | (go_at_call 15; refine (from_c G.out H.out (Nat.le_refl _)).mono ?_; rintro e w2 ⟨rfl, rfl⟩) | fail)
  go_loopw [7] (fun kv wr => ∃ k : Nat, kv = .int .i64 k ∧ wr = w ∧ Hid (k < xs.length) ∧ Hid (pre xs k ≤ q)) (fun kv _ => xs.length - (intOf kv).toNat)
  case atStart => exact ⟨0, rfl, rfl, Lib.hid G.out.pos, Lib.hid (by rw [pre_zero]; omega)⟩
  case round =>
    obtain ⟨k, rfl, rfl, hk, hle⟩ := hrel
    have hk2 := hk.out
    have f1 : IntKind.i64.wrap ((k : Int) + 1) = ((k + 1 : Nat) : Int) := by rw [IntKind.wrap_i64]; omega
    by_cases hc : pre xs (k + 1) ≤ q
    · have hk3 := Lib.hid (show k + 1 < xs.length by
        rcases Nat.lt_or_ge (k + 1) xs.length with h | h
        · exact h
        · have e : k + 1 = xs.length := by omega
          have := hqc.out; unfold cyc at this; rw [← e] at this; omega)
      have d1 : decide (((pre xs (k + 1) : Nat) : Int) ≤ (q : Int)) = true ∧ decide (pre xs (k + 1) ≤ q) = true := ⟨decide_eq_true (by omega), decide_eq_true hc⟩
      obtain ⟨d1, d2⟩ := d1
      have hc2 := Lib.hid hc
      clear hc hle
      go_wp2_with (first | (go_at_call 15; refine (from_c G.out H.out (Nat.succ_le_of_lt hk.out)).mono ?_; rintro e w2 ⟨rfl, rfl⟩) | fail)
      go_roundw
      case rel => exact ⟨k + 1, rfl, by first | trivial | rfl, hk3, hc2⟩
      case measure => simp [intOf]; omega
    · have d1 : decide (((pre xs (k + 1) : Nat) : Int) ≤ (q : Int)) = false ∧ decide (pre xs (k + 1) ≤ q) = false := ⟨decide_eq_false (by omega), decide_eq_false hc⟩
      obtain ⟨d1, d2⟩ := d1
      have hres := at_of G.out ht2.out.2 hk.out (by rw [← hqT.out]; exact hle.out) (by rw [← hqT.out]; omega)
      rw [← hqT.out] at hres
      obtain ⟨b, off, rfl, hbs, c0, c1⟩ := H.out.at hk.out
      obtain ⟨O, hO⟩ : ∃ O, O = xs[k].owner := ⟨_, rfl⟩
      rw [← hO] at c0 hres
      have hres2 := Lib.hid (show atE xs t = (((pre xs (k + 1) : Nat) : Int) == ((q + 1 : Nat) : Int)) by
        rw [hres.2, Bool.eq_iff_iff, decide_eq_true_eq, beq_iff_eq]; omega)
      have hres1 := Lib.hid hres.1
      have hk4 : (k : Int) < (xs.length : Int) := by omega
      have hk5 : decide ((k : Int) < 0) = false := by simp
      clear hc hle hres hO c1
      go_wp2_with (first | (go_at_call 15; refine (from_c G.out H.out (Nat.succ_le_of_lt hk.out)).mono ?_; rintro e w2 ⟨rfl, rfl⟩) | fail)
      go_quiet (first | (go_at_call 15; refine Calls.quiet_of_same ((from_c G.out (show SlA (wr.drewN _) _ xs from H.out) (Nat.succ_le_of_lt hk.out)).mono fun _ _ h => ⟨h.1, h.2.symm⟩)))
      go_wp2
      go_ret2
      exact ⟨by rw [hres1.out, hres2.out]; rfl, _, rfl⟩
end Go.Proofs.Ytnlbcgonegeofaa
