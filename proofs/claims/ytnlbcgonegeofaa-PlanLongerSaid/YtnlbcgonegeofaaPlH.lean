/- Plan's Next: what it answers. No condition. -/
import Derived.Test.YtnlbcgonegeofaaPlG
namespace Go.Proofs.Ytnlbcgonegeofaa
open Go.RowKit
set_option linter.unusedVariables false
set_option linter.unusedSimpArgs false
set_option maxRecDepth 100000

/-- Where the search stands: in this cycle, in the next one, behind it. -/
def NxAt (xs : List Sl) (who : Int) (t r at' base : Nat) : Prop :=
  (r = 0 ∧ at' = t % cyc xs ∧ base = t / cyc xs * cyc xs) ∨ (r = 1 ∧ at' = 0 ∧ base = t / cyc xs * cyc xs + cyc xs ∧ ∀ i, Own xs who i → ¬ t % cyc xs ≤ pre xs i) ∨ (r = 2 ∧ ¬ ∃ i, Own xs who i)
theorem NxAt.found {xs : List Sl} (g : Gd xs) {who : Int} {t r at' base k : Nat} (h : NxAt xs who t r at' base) (hk : k < xs.length) (ho : xs[k].owner = who) (h1 : at' ≤ pre xs k) (hf : ∀ i, i < k → Own xs who i → ¬ at' ≤ pre xs i) :
    nxV xs who t = if base + pre xs (k + 1) < U64 then (base + pre xs k, base + pre xs (k + 1), true) else (0, 0, false) := by
  rcases h with ⟨_, rfl, rfl⟩ | ⟨_, rfl, rfl, hn⟩ | ⟨_, hn⟩
  · exact nxV_this g hk ho h1 hf
  · exact nx_later g hk ho (fun i hi hio => hf i hi hio (Nat.zero_le _)) (fun i hio h2 _ => hn i hio h2)
  · exact absurd ⟨k, hk, ho⟩ hn
theorem NxAt.far {xs : List Sl} (g : Gd xs) {who : Int} {t r at' base : Nat} (h : NxAt xs who t r at' base) (hf : ∀ i, Own xs who i → ¬ at' ≤ pre xs i) (hU : U64 ≤ base + cyc xs) : nxV xs who t = (0, 0, false) := by
  rcases h with ⟨_, rfl, rfl⟩ | ⟨_, rfl, rfl, hn⟩ | ⟨_, hn⟩
  · exact nxV_far g hf hU
  · exact nxV_none (fun ⟨i, hi⟩ => hf i hi (Nat.zero_le _)) t
  · exact nxV_none hn t
theorem NxAt.step {xs : List Sl} {who : Int} {t r at' base : Nat} (h : NxAt xs who t r at' base) (hr : r < 2) (hf : ∀ i, Own xs who i → ¬ at' ≤ pre xs i) : NxAt xs who t (r + 1) 0 (base + cyc xs) := by
  rcases h with ⟨rfl, rfl, rfl⟩ | ⟨rfl, rfl, rfl, hn⟩ | ⟨rfl, hn⟩
  · exact .inr (.inl ⟨rfl, rfl, rfl, hf⟩)
  · exact .inr (.inr ⟨rfl, fun ⟨i, hi⟩ => hf i hi (Nat.zero_le _)⟩)
  · omega

set_option maxHeartbeats 4000000 in
theorem next_c {w : World} {c : Nat} {A : Option Addr} {xs : List Sl} (g : Gd xs) (hr : PlAt w A xs) (who : Int) {t : Nat} (ht : t < U64) :
    Calls Try.prog 16 #[.agg #[.slice A xs.length c, .int .u64 (cyc xs : Nat)], .int .i64 who, .int .u64 t] w fun e w' => e = .returned (.tuple #[.int .u64 ((nxV xs who t).1 : Nat), .int .u64 ((nxV xs who t).2.1 : Nat), .bool (nxV xs who t).2.2]) ∧ Below w.heap.size w w' := by
  obtain ⟨R, hR⟩ : ∃ R, R = nxV xs who t := ⟨_, rfl⟩
  rw [← hR]
  replace hR := Lib.hid hR
  have hb := Lib.hid (belA (Below.refl w.heap.size w) (.cells #[.slice A xs.length c, .int .u64 (cyc xs : Nat)] 27))
  obtain ⟨q, hq, q1, q2, q3, q4, q5, q6, q7⟩ := rem_facts (a := t) (cyc_pos g)
  have hcb := cyc_bd g
  have hdm := Nat.div_add_mod t (cyc xs)
  rw [Nat.mul_comm] at hdm
  obtain ⟨Z, hZ⟩ : ∃ Z, Z = t / cyc xs * cyc xs := ⟨_, rfl⟩
  rw [← hZ, ← hq] at hdm
  have e2 : IntKind.u64.wrap (q : Int) = (q : Int) := wrapU (by omega)
  have e3 : IntKind.u64.wrap ((t : Int) - (q : Int)) = (Z : Int) := by unfold U64 at ht; rw [wrapU (by omega)]; omega
  have hZU : Hid (Z < U64) := Lib.hid (by omega)
  have key1 : Hid (∀ X, Below w.heap.size w X → PlAt X A xs) := Lib.hid fun X hX => hr.below hX
  have key2 : Hid (∀ X, Below (w.alloc (.cells #[.slice A xs.length c, .int .u64 (cyc xs : Nat)] 27)).heap.size (w.alloc (.cells #[.slice A xs.length c, .int .u64 (cyc xs : Nat)] 27)) X → X.cell? ⟨w.heap.size, 0, none⟩ = some (.slice A xs.length c) ∧ X.cell? ⟨w.heap.size, 1, none⟩ = some (.int .u64 (cyc xs : Nat)) ∧ Below w.heap.size w X) := Lib.hid fun X hX =>
    ⟨(hX.cell (p := ⟨w.heap.size, 0, none⟩) (by simp)).trans (Cel.new w #[.slice A xs.length c, .int .u64 (cyc xs : Nat)] _ 0 _ rfl).1, (hX.cell (p := ⟨w.heap.size, 1, none⟩) (by simp)).trans (Cel.new w #[.slice A xs.length c, .int .u64 (cyc xs : Nat)] _ 1 _ rfl).1, belT hb.out hX⟩
  have S0 : Hid (NxAt xs who t 0 q Z) := Lib.hid (.inl ⟨rfl, hq, hZ⟩)
  have G := Lib.hid g
  have hl := g.small
  obtain ⟨C, hC⟩ : ∃ C, C = cyc xs := ⟨_, rfl⟩
  rw [← hC] at hb q1 q2 q3 q4 q5 q6 q7 key2
  rw [← hC]
  have hCU : Hid (C < U64) := Lib.hid (by rw [hC]; unfold U64; omega)
  replace hC := Lib.hid hC
  replace q7 := Lib.hid q7
  have hqZ := Lib.hid (And.intro hq hZ)
  have hsz1 : Hid (w.heap.size < (w.alloc (.cells #[.slice A xs.length c, .int .u64 C] 27)).heap.size) := Lib.hid (by simp)
  clear hr g hq hZ ht hcb hdm hb
  go_enter Try.func16, Try.ntmps16
  go_wp2_with fail
  generalize hBn : w.heap.size = B at *
  generalize hW0 : w.alloc (.cells #[.slice A xs.length c, .int .u64 C] 27) = W0 at *
  have hr0 := Lib.hid (Below.refl W0.heap.size W0)
  replace hBn := Lib.hid hBn; replace hW0 := Lib.hid hW0
  go_loopw [9, 10, 29] (fun av bv rv wr => ∃ at' base r : Nat, av = .int .u64 at' ∧ bv = .int .u64 base ∧ rv = .int .i64 r ∧ Hid (r ≤ 2) ∧ Hid (base < U64) ∧ Hid (NxAt xs who t r at' base) ∧ Hid (Below W0.heap.size W0 wr)) (fun _ _ rv _ => 2 - (intOf rv).toNat)
  case atStart => exact ⟨q, Z, 0, rfl, rfl, rfl, Lib.hid (by omega), hZU, S0, hr0⟩
  case round =>
    obtain ⟨at', base, r, rfl, rfl, rfl, hr, hbU, hN, hW⟩ := hrel
    clear S0 hqZ hZU e2 e3 q1 q2 q3
    by_cases hr2 : r < 2
    · obtain ⟨z0, z1, _⟩ := key2.out wr hW.out
      go_wp2_with fail
      go_loopw [34] (fun kv wr2 => ∃ k : Nat, kv = .int .i64 k ∧ Hid (k ≤ xs.length) ∧ Hid (∀ i, i < k → Own xs who i → ¬ at' ≤ pre xs i) ∧ Hid (Below W0.heap.size W0 wr2)) (fun kv _ => xs.length - (intOf kv).toNat)
      case atStart => exact ⟨0, rfl, Lib.hid (Nat.zero_le _), Lib.hid (fun i h => by omega), hW⟩
      case round =>
        obtain ⟨k, rfl, hk, hno, hB⟩ := hrel
        clear z0 z1
        obtain ⟨z0, z1, z2⟩ := key2.out wr hB.out
        by_cases hlt : k < xs.length
        · obtain ⟨b, off, hA, hbs, c0, c1, c2⟩ := (key1.out wr z2).at hlt
          subst hA
          obtain ⟨O, hO⟩ : ∃ O, O = xs[k].owner := ⟨_, rfl⟩
          obtain ⟨P, hP⟩ : ∃ P, P = pre xs k := ⟨_, rfl⟩
          obtain ⟨P2, hP2⟩ : ∃ P2, P2 = pre xs (k + 1) := ⟨_, rfl⟩
          rw [← hO] at c0
          rw [← hP] at c1
          rw [← hP2] at c2
          have hB2 := Lib.hid (belA hB.out (.cells #[.int .i64 O, .int .u64 P, .int .u64 P2] 53))
          have hzz : Hid (Below w.heap.size w (wr.alloc (.cells #[.int .i64 O, .int .u64 P, .int .u64 P2] 53))) := Lib.hid (by
            have h9 := z2
            rw [← hBn.out] at h9
            exact belA h9 _)
          clear z2
          by_cases how : O = who
          · have hO2 := hO.symm.trans how
            by_cases hle : at' ≤ P
            · have hres := hN.out.found G.out hlt hO2 (by rw [← hP]; exact hle) hno.out
              rw [← hR.out, ← hP, ← hP2] at hres
              obtain ⟨d1, d2⟩ : decide ((at' : Int) ≤ (P : Int)) = true ∧ decide (at' ≤ P) = true := ⟨decide_eq_true (by omega), decide_eq_true hle⟩
              have e1 : (O == who) = true := beq_iff_eq.mpr how
              have hP12 : P < P2 := by rw [hP, hP2]; exact pre_lt G.out hlt
              have hP2c : P2 < U64 := by have := cyc_bd G.out; have := pre_mono G.out (show k + 1 ≤ xs.length from hlt) (Nat.le_refl _); unfold U64; rw [hP2]; unfold cyc at *; omega
              have hPc : Hid (P < U64) := Lib.hid (by omega)
              have hbU2 := hbU.out
              clear hno hP hP2 hO how hO2 hle hN
              by_cases hfin : base + P2 < U64
              · rw [if_pos hfin] at hres
                have hfin1 := Lib.hid (show base + P < U64 by omega)
                replace hres := Lib.hid hres; replace hfin := Lib.hid hfin
                clear hP12 hP2c hbU2
                go_wp2_with (first | (go_at_call 20; with_reducible refine (add_yes _ hfin1.out).mono ?_; rintro e w2 ⟨rfl, rfl⟩) | (go_at_call 20; with_reducible refine (add_yes _ hfin.out).mono ?_; rintro e w2 ⟨rfl, rfl⟩) | fail)
                refine bodyPost_ret (results_tmp3 rfl _ _ _) rfl ?_
                exact ⟨by rw [hres.out]; rfl, hzz.out⟩
              · rw [if_neg hfin] at hres
                have hfin2 := Lib.hid (show U64 ≤ base + P2 by omega)
                replace hP2c := Lib.hid hP2c
                replace hres := Lib.hid hres
                by_cases hf1 : base + P < U64
                · replace hf1 := Lib.hid hf1
                  clear hfin hP12 hbU2
                  go_wp2_with (first | (go_at_call 20; with_reducible refine (add_yes _ hf1.out).mono ?_; rintro e w2 ⟨rfl, rfl⟩) | (go_at_call 20; with_reducible refine (add_no _ hbU.out hP2c.out hfin2.out).mono ?_; rintro e w2 ⟨rfl, rfl⟩) | fail)
                  refine bodyPost_ret (results_tmp3 rfl _ _ _) rfl ?_
                  exact ⟨by rw [hres.out]; rfl, hzz.out⟩
                · have hf2 := Lib.hid (show U64 ≤ base + P by omega)
                  clear hfin hP12 hbU2 hf1
                  go_wp2_with (first | (go_at_call 20; with_reducible refine (add_no _ hbU.out hPc.out hf2.out).mono ?_; rintro e w2 ⟨rfl, rfl⟩) | (go_at_call 20; with_reducible refine (add_no _ hbU.out hP2c.out hfin2.out).mono ?_; rintro e w2 ⟨rfl, rfl⟩) | fail)
                  refine bodyPost_ret (results_tmp3 rfl _ _ _) rfl ?_
                  exact ⟨by rw [hres.out]; rfl, hzz.out⟩
            · obtain ⟨d1, d2⟩ : decide ((at' : Int) ≤ (P : Int)) = false ∧ decide (at' ≤ P) = false := ⟨decide_eq_false (by omega), decide_eq_false hle⟩
              have e1 : (O == who) = true := beq_iff_eq.mpr how
              have hno2 := Lib.hid (show ∀ i, i < k + 1 → Own xs who i → ¬ at' ≤ pre xs i from fun i hi ho => by
                by_cases hik : i = k
                · subst hik; rw [← hP]; exact hle
                · exact hno.out i (by omega) ho)
              clear hno hP hP2 hO how hO2 hle hN
              go_wp2
              go_roundw
              case rel => exact ⟨k + 1, by go_num, Lib.hid hlt, hno2, hB2⟩
              case measure => simp [intOf]; omega
          · have e1 : (O == who) = false := beq_eq_false_iff_ne.mpr how
            have hno2 := Lib.hid (show ∀ i, i < k + 1 → Own xs who i → ¬ at' ≤ pre xs i from fun i hi ho => by
              by_cases hik : i = k
              · subst hik; exact absurd (hO.trans ho.2) how
              · exact hno.out i (by omega) ho)
            clear hno hP hP2 hO how hN
            go_wp2
            go_roundw
            case rel => exact ⟨k + 1, by go_num, Lib.hid hlt, hno2, hB2⟩
            case measure => simp [intOf]; omega
        · have hno2 : ∀ i, Own xs who i → ¬ at' ≤ pre xs i := fun i ho => hno.out i (by have := ho.1; omega) ho
          rw [← hBn.out] at z2
          have hz2 := Lib.hid z2
          clear z2 hno
          by_cases hfar : base + C < U64
          · have hnew := Lib.hid (hN.out.step hr2 hno2)
            rw [← hC.out] at hnew
            replace hfar := Lib.hid hfar
            clear hno2 hN
            go_wp2_with (first | (go_at_call 20; with_reducible refine (add_yes _ hfar.out).mono ?_; rintro e w2 ⟨rfl, rfl⟩) | fail)
            go_roundw
            case rel => exact ⟨0, base + C, r + 1, rfl, rfl, by go_num, Lib.hid (by omega), hfar, hnew, hB⟩
            case measure => simp [intOf]; omega
          · have hres := hN.out.far G.out hno2 (by rw [← hC.out]; omega)
            rw [← hR.out] at hres
            have hfar2 := Lib.hid (show U64 ≤ base + C by omega)
            replace hres := Lib.hid hres
            clear hno2 hN hfar
            go_wp2_with (first | (go_at_call 20; with_reducible refine (add_no _ hbU.out hCU.out hfar2.out).mono ?_; rintro e w2 ⟨rfl, rfl⟩) | fail)
            refine bodyPost_ret (results_tmp3 rfl _ _ _) rfl ?_
            exact ⟨by rw [hres.out]; rfl, hz2.out⟩
    · have hres : R = (0, 0, false) := by
        rw [hR.out]
        rcases hN.out with ⟨h, _⟩ | ⟨h, _⟩ | ⟨_, h⟩
        · omega
        · omega
        · exact nxV_none h t
      have hz2 := (key2.out wr hW.out).2.2
      rw [← hBn.out] at hz2
      replace hz2 := Lib.hid hz2
      replace hres := Lib.hid hres
      clear hN
      go_wp2
      refine bodyPost_ret (results_tmp3 rfl _ _ _) rfl ?_
      exact ⟨by rw [hres.out]; rfl, hz2.out⟩
end Go.Proofs.Ytnlbcgonegeofaa
