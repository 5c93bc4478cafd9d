/- Plan's Cycle, At, Next: what they answer. No condition. -/
import Derived.Test.YtnlbcgonegeofaaPlO
namespace Go.Proofs.Ytnlbcgonegeofaa
open Go.RowKit
set_option linter.unusedVariables false
set_option linter.unusedSimpArgs false
set_option maxRecDepth 100000

theorem cycle_c (w : World) (v : Value) (A : Option Addr) (n c : Nat) (C : Int) (hv : v = .slice A n c) : Calls Try.prog 12 #[.agg #[v, .int .u64 C]] w fun e w' => e = .returned (.int .u64 C) ∧ Below w.heap.size w w' := by
  subst hv
  have hb := Lib.hid (belA (Below.refl w.heap.size w) (.cells #[.slice A n c, .int .u64 C] 27))
  go_enter Try.func12, Try.ntmps12
  go_wp2
  go_ret
  exact ⟨rfl, hb.out⟩

set_option maxHeartbeats 2000000 in
theorem at_c {w : World} {c : Nat} {A : Option Addr} {xs : List Sl} (g : Gd xs) (hr : PlAt w A xs) {t : Nat} (ht : t < U64) :
    Calls Try.prog 13 #[.agg #[.slice A xs.length c, .int .u64 (cyc xs : Nat)], .int .u64 t] w fun e w' => e = .returned (.tuple #[.int .i64 (atO xs t), .bool (atE xs t)]) ∧ Below w.heap.size w w' := by
  have hb := Lib.hid (belA (Below.refl w.heap.size w) (.cells #[.slice A xs.length c, .int .u64 (cyc xs : Nat)] 27))
  rcases Nat.eq_zero_or_pos t with h0 | h0
  · subst h0
    obtain ⟨C, hC⟩ : ∃ C, C = cyc xs := ⟨_, rfl⟩
    obtain ⟨n, hn⟩ : ∃ n, n = xs.length := ⟨_, rfl⟩
    rw [← hC, ← hn] at hb
    rw [← hC, ← hn]
    have hz := Lib.hid (at_zero xs)
    clear hC hn hr ht g
    go_enter Try.func13, Try.ntmps13
    go_wp2
    go_ret2
    exact ⟨by rw [hz.out.1, hz.out.2]; rfl, hb.out⟩
  obtain ⟨T, hT⟩ : ∃ T, T = t - 1 := ⟨_, rfl⟩
  obtain ⟨q, hq, q1, q2, q3, q4, q5, q6, q7⟩ := rem_facts (a := T) (cyc_pos g)
  have hcb := cyc_bd g
  have e0 : ((t : Int) == 0) = false := beq_eq_false_iff_ne.mpr (by omega)
  have e1 : IntKind.u64.wrap ((t : Int) - 1) = (T : Int) := by unfold U64 at ht; rw [wrapU (by omega)]; omega
  have e2 : IntKind.u64.wrap (q : Int) = (q : Int) := wrapU (by omega)
  have e3 : IntKind.u64.wrap ((q : Int) + 1) = ((q + 1 : Nat) : Int) := by rw [wrapU (by omega)]; omega
  have key1 : Hid (∀ X, Below w.heap.size w X → PlAt X A xs) := Lib.hid fun X hX => hr.below hX
  have G := Lib.hid g
  have hl := g.small
  have hqT := Lib.hid (show q = (t - 1) % cyc xs by rw [hq, hT])
  have ht2 := Lib.hid (And.intro ht h0)
  obtain ⟨C, hC⟩ : ∃ C, C = cyc xs := ⟨_, rfl⟩
  rw [← hC] at hb q1 q2 q3 q4 q5 q6 q7
  rw [← hC]
  replace hC := Lib.hid hC
  replace q7 := Lib.hid q7
  clear hr g hq hT ht h0 hcb
  go_enter Try.func13, Try.ntmps13
  go_wp2_with fail
  go_loopw [24] (fun kv wr => ∃ k : Nat, kv = .int .i64 k ∧ Hid (Below w.heap.size w wr) ∧ Hid (k < xs.length) ∧ Hid (pre xs k ≤ q)) (fun kv _ => xs.length - (intOf kv).toNat)
  case atStart => exact ⟨0, rfl, hb, Lib.hid G.out.pos, Lib.hid (by rw [pre_zero]; omega)⟩
  case round =>
    obtain ⟨k, rfl, hB, hk, hle⟩ := hrel
    have hk2 := hk.out
    obtain ⟨b, off, rfl, hbs, c0, c1, c2⟩ := (key1.out wr hB.out).at hk.out
    obtain ⟨O, hO⟩ : ∃ O, O = xs[k].owner := ⟨_, rfl⟩
    obtain ⟨P, hP⟩ : ∃ P, P = pre xs k := ⟨_, rfl⟩
    obtain ⟨P2, hP2⟩ : ∃ P2, P2 = pre xs (k + 1) := ⟨_, rfl⟩
    rw [← hO] at c0
    rw [← hP] at c1
    rw [← hP2] at c2
    have hB2 := Lib.hid (belA hB.out (.cells #[.int .i64 O, .int .u64 P, .int .u64 P2] 53))
    by_cases hc : pre xs (k + 1) ≤ q
    · have hk3 := Lib.hid (show k + 1 < xs.length by
        rcases Nat.lt_or_ge (k + 1) xs.length with h | h
        · exact h
        · have e : k + 1 = xs.length := by omega
          have := q7.out; rw [hC.out] at this; unfold cyc at this; rw [← e] at this; omega)
      obtain ⟨d1, d2⟩ : decide ((q : Int) < (P2 : Int)) = false ∧ decide (q < P2) = false := ⟨decide_eq_false (by omega), decide_eq_false (by omega)⟩
      have hc2 := Lib.hid hc
      clear hc hle hO hP hP2
      go_wp2
      go_roundw
      case rel => exact ⟨k + 1, by go_num, hB2, hk3, hc2⟩
      case measure => simp [intOf]; omega
    · obtain ⟨d1, d2⟩ : decide ((q : Int) < (P2 : Int)) = true ∧ decide (q < P2) = true := ⟨decide_eq_true (by omega), decide_eq_true (by omega)⟩
      have hres := at_of G.out ht2.out.2 hk.out (by rw [← hqT.out]; exact hle.out) (by rw [← hqT.out]; omega)
      rw [← hqT.out, ← hO, ← hP2] at hres
      have hres2 := Lib.hid (show atE xs t = (((q + 1 : Nat) : Int) == (P2 : Int)) by
        rw [hres.2, Bool.eq_iff_iff, decide_eq_true_eq, beq_iff_eq]; omega)
      have hres1 := Lib.hid hres.1
      clear hc hle hres hO hP hP2
      go_wp2_with fail
      go_quiet (fail)
      go_wp2
      go_ret2
      exact ⟨by rw [hres1.out, hres2.out]; rfl, belN hB2.out _⟩

theorem nxV_this {xs : List Sl} (g : Gd xs) {who : Int} {t k : Nat} (hk : k < xs.length) (ho : xs[k].owner = who) (h1 : t % cyc xs ≤ pre xs k) (hf : ∀ i, i < k → Own xs who i → ¬ t % cyc xs ≤ pre xs i) :
    nxV xs who t = if t / cyc xs * cyc xs + pre xs (k + 1) < U64 then (t / cyc xs * cyc xs + pre xs k, t / cyc xs * cyc xs + pre xs (k + 1), true) else (0, 0, false) := by
  have hn := nx_this g (t := t) ⟨hk, ho⟩ h1 hf
  have hc := pre_mono_lt g hk (Nat.le_refl _)
  rw [nxV_of g hn, en_of g hk (by rw [Nat.add_comm, Nat.add_mul_mod_self_right]; exact Nat.mod_eq_of_lt hc), Nat.add_assoc, ← pre_succ hk]
theorem nxV_far {xs : List Sl} (g : Gd xs) {who : Int} {t : Nat} (hn : ∀ i, Own xs who i → ¬ t % cyc xs ≤ pre xs i) (hU : U64 ≤ t / cyc xs * cyc xs + cyc xs) : nxV xs who t = (0, 0, false) := by
  by_cases ho : ∃ i, Own xs who i
  · obtain ⟨i, hi⟩ := ho
    obtain ⟨j, hj, hf⟩ := first_ex (P := Own xs who) hi
    obtain ⟨hj1, hj2⟩ := hj
    rw [nx_later g hj1 hj2 hf (fun i ho h1 _ => hn i ho h1), if_neg (by omega)]
  · exact nxV_none ho t
end Go.Proofs.Ytnlbcgonegeofaa
