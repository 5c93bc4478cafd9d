/- The document's answer on plans: Next. No condition. -/
import Derived.Test.YtnlbcgonegeofaaPlA
namespace Go.Proofs.Ytnlbcgonegeofaa
open Go.RowKit
set_option linter.unusedVariables false
set_option linter.unusedSimpArgs false
set_option maxRecDepth 100000

theorem end_yes {w : World} {c : Nat} {A : Option Addr} {xs : List Sl} (g : Gd xs) (hr : SlA w A xs) {i lo : Nat} (hk : i < xs.length) (hlo : lo + pre xs (i + 1) < U64) :
    Calls Try.prog 21 #[.slice A xs.length c, .int .i64 i, .agg #[.int .u64 0, .int .u64 lo]] w fun e w' => e = .returned (.tuple #[.int .u64 ((lo + pre xs i : Nat) : Int), .int .u64 ((lo + pre xs (i + 1) : Nat) : Int), .bool true]) ∧ Below w.heap.size w w' := by
  have := end_lo (c := c) g hr hk (lo := lo) (by omega)
  rw [if_pos hlo] at this
  exact this
theorem end_no {w : World} {c : Nat} {A : Option Addr} {xs : List Sl} (g : Gd xs) (hr : SlA w A xs) {i hi lo : Nat} (hk : i < xs.length) (hlo : lo < U64) (h : 0 < hi ∨ U64 ≤ lo + pre xs (i + 1)) :
    Calls Try.prog 21 #[.slice A xs.length c, .int .i64 i, .agg #[.int .u64 hi, .int .u64 lo]] w fun e w' => e = .returned (.tuple #[.int .u64 0, .int .u64 0, .bool false]) ∧ Below w.heap.size w w' := by
  rcases Nat.eq_zero_or_pos hi with h0 | h0
  · subst h0
    have := end_lo (c := c) g hr hk (lo := lo) hlo
    rw [if_neg (by omega)] at this
    exact this
  · exact end_hi h0

/-- Found in this cycle. -/
theorem nx_found {xs : List Sl} (g : Gd xs) {who : Int} {t k : Nat} (hk : k < xs.length) (ho : xs[k].owner = who) (h1 : t % cyc xs ≤ pre xs k)
    (hf : ∀ i, i < k → Own xs who i → t % cyc xs ≤ pre xs i → t / cyc xs * cyc xs + pre xs i < U64 → False) (h2 : t / cyc xs * cyc xs + pre xs k < U64) :
    nxV xs who t = if t / cyc xs * cyc xs + pre xs (k + 1) < U64 then (t / cyc xs * cyc xs + pre xs k, t / cyc xs * cyc xs + pre xs (k + 1), true) else (0, 0, false) := by
  have hn := nx_this g (t := t) ⟨hk, ho⟩ h1 (fun i hi hio hle => hf i hi hio hle (by have := pre_mono g (Nat.le_of_lt hi) (Nat.le_of_lt hk); omega))
  have hc := pre_mono_lt g hk (Nat.le_refl _)
  rw [nxV_of g hn, en_of g hk (by rw [Nat.add_comm, Nat.add_mul_mod_self_right]; exact Nat.mod_eq_of_lt hc), Nat.add_assoc, ← pre_succ hk]
/-- Found in the next cycle. -/
theorem nx_later {xs : List Sl} (g : Gd xs) {who : Int} {t k : Nat} (hk : k < xs.length) (ho : xs[k].owner = who) (hf : ∀ i, i < k → ¬ Own xs who i)
    (hn : ∀ i, Own xs who i → t % cyc xs ≤ pre xs i → t / cyc xs * cyc xs + pre xs i < U64 → False) :
    nxV xs who t = if t / cyc xs * cyc xs + cyc xs + pre xs (k + 1) < U64 then (t / cyc xs * cyc xs + cyc xs + pre xs k, t / cyc xs * cyc xs + cyc xs + pre xs (k + 1), true) else (0, 0, false) := by
  have hc := pre_mono_lt g hk (Nat.le_refl _)
  by_cases hx : ∃ i, Own xs who i ∧ t % cyc xs ≤ pre xs i
  · obtain ⟨i, hi⟩ := hx
    obtain ⟨j, hj, hjf⟩ := first_ex (P := fun i => Own xs who i ∧ t % cyc xs ≤ pre xs i) hi
    have hnx := nx_this g hj.1 hj.2 (fun i hi ho hle => hjf i hi ⟨ho, hle⟩)
    have hge : ¬ t / cyc xs * cyc xs + pre xs j < U64 := fun h => hn j hj.1 hj.2 h
    have hjc := pre_mono_lt g hj.1.1 (Nat.le_refl _)
    have hb := (en_bd g hnx.1).1
    unfold cyc at *
    rw [nxV_of g hnx, if_neg (by omega), if_neg (by omega)]
  · have hnx := nx_next g (t := t) ⟨hk, ho⟩ hf (fun i ho hle => hx ⟨i, ho, hle⟩)
    rw [nxV_of g hnx, en_of g hk (by rw [show t / cyc xs * cyc xs + cyc xs + pre xs k = pre xs k + (t / cyc xs + 1) * cyc xs by rw [Nat.add_mul]; omega, Nat.add_mul_mod_self_right]; exact Nat.mod_eq_of_lt hc), Nat.add_assoc _ (pre xs k), ← pre_succ hk]

set_option maxHeartbeats 2000000 in
theorem rnext_c {w : World} {c : Nat} {A : Option Addr} {xs : List Sl} (g : Gd xs) (hr : SlA w A xs) (who : Int) {t : Nat} (ht : t < U64) :
    Calls Try.prog 17 #[.slice A xs.length c, .int .i64 who, .int .u64 t] w fun e w' => e = .returned (.tuple #[.int .u64 ((nxV xs who t).1 : Nat), .int .u64 ((nxV xs who t).2.1 : Nat), .bool (nxV xs who t).2.2]) ∧ Below w.heap.size w w' := by
  obtain ⟨R, hR⟩ : ∃ R, R = nxV xs who t := ⟨_, rfl⟩
  rw [← hR]
  replace hR := Lib.hid hR
  obtain ⟨q, hq, q1, q2, q3, q4, q5, q6⟩ := div_facts (a := t) (cyc_pos g)
  have hdm := Nat.div_add_mod t (cyc xs)
  rw [Nat.mul_comm, ← hq] at hdm
  have hmc := Nat.mod_lt t (cyc_pos g)
  have hcb := cyc_bd g
  obtain ⟨Z, hZ⟩ : ∃ Z, Z = q * cyc xs := ⟨_, rfl⟩
  rw [← hZ] at hdm
  have hqt : q ≤ t := by rw [hq]; exact Nat.div_le_self _ _
  have e1 : IntKind.u64.wrap (q : Int) = (q : Int) := wrapU (by unfold U64 at ht; omega)
  have e2 : IntKind.u64.wrap ((q : Int) * ((cyc xs : Nat) : Int)) = (Z : Int) := by rw [← Int.natCast_mul, ← hZ]; exact wrapU (by unfold U64 at ht; omega)
  have hZU : Hid (Z < U64) := Lib.hid (by omega)
  have hl := g.small
  have H := Lib.hid hr
  have G := Lib.hid g
  have key1 : Hid (∀ X, Below w.heap.size w X → SlA X A xs) := Lib.hid fun X hX => hr.below hX
  have hZ2 := Lib.hid (show t / cyc xs * cyc xs = Z by rw [hZ, hq])
  have hT := Lib.hid ht
  have hD := Lib.hid hdm; have hM := Lib.hid hmc; have hC := Lib.hid hcb
  have hCU : Hid (cyc xs < U64) := Lib.hid (by unfold U64; omega)
  clear hr g hq hZ ht hdm hmc hcb hqt
  go_enter Try.func17, Try.ntmps17
  go_wp2_with (first | (go_at_call 15; refine (from_c G.out H.out (Nat.le_refl _)).mono ?_; rintro e w2 ⟨rfl, rfl⟩) | fail)
  go_loopw [11] (fun kv wr => ∃ k : Nat, kv = .int .i64 k ∧ wr = w ∧ Hid (k ≤ xs.length) ∧ Hid (∀ i, i < k → Own xs who i → t % cyc xs ≤ pre xs i → t / cyc xs * cyc xs + pre xs i < U64 → False)) (fun kv _ => xs.length - (intOf kv).toNat)
  case atStart => exact ⟨0, rfl, rfl, Lib.hid (Nat.zero_le _), Lib.hid (fun i hi => by omega)⟩
  case round =>
    obtain ⟨k, rfl, rfl, hk, hno⟩ := hrel
    by_cases hlt : k < xs.length
    · obtain ⟨b, off, rfl, hbs, c0, c1⟩ := H.out.at hlt
      obtain ⟨O, hO⟩ : ∃ O, O = xs[k].owner := ⟨_, rfl⟩
      rw [← hO] at c0
      have hk5 : decide ((k : Int) < 0) = false := by simp
      have hk4 : (k : Int) < (xs.length : Int) := by omega
      have hO2 := Lib.hid hO
      clear c1 hO
      by_cases how : O = who
      · subst how
        obtain ⟨V, hV⟩ : ∃ V, V = IntKind.u64.wrap ((Z : Int) + ((pre xs k : Nat) : Int)) := ⟨_, rfl⟩
        have hpk := pre_mono_lt G.out hlt (Nat.le_refl _)
        have hZU2 := hZU.out; have hT2 := hT.out; have hD2 := hD.out; have hM2 := hM.out; have hC2 := hC.out
        by_cases hfound : t % cyc xs ≤ pre xs k ∧ Z + pre xs k < U64
        · have hV2 : V = ((Z + pre xs k : Nat) : Int) := by rw [hV]; unfold U64 at hfound; rw [wrapU (by omega)]; omega
          have e3 : IntKind.u64.wrap ((Z : Int) + ((pre xs k : Nat) : Int)) = ((Z + pre xs k : Nat) : Int) := hV.symm.trans hV2
          obtain ⟨d1, d2⟩ : decide ((t : Int) ≤ ((Z + pre xs k : Nat) : Int)) = true ∧ decide (t ≤ Z + pre xs k) = true := ⟨decide_eq_true (by omega), decide_eq_true (by omega)⟩
          obtain ⟨d3, d4⟩ : decide ((Z : Int) ≤ ((Z + pre xs k : Nat) : Int)) = true ∧ decide (Z ≤ Z + pre xs k) = true := ⟨decide_eq_true (by omega), decide_eq_true (by omega)⟩
          have hres := nx_found G.out hlt hO2.out.symm hfound.1 hno.out (by rw [hZ2.out]; exact hfound.2)
          rw [hZ2.out, ← hR.out] at hres
          have hlt2 := Lib.hid hlt
          obtain ⟨Y, hY⟩ : ∃ Y : Nat, Y = Z + pre xs k := ⟨_, rfl⟩
          rw [← hY] at e3 d1 d2 d3 d4 hres
          have hY2 := Lib.hid hY
          clear hV hV2 hfound hpk hZU2 hT2 hD2 hM2 hC2 hno hY
          by_cases hfin : Z + pre xs (k + 1) < U64
          · rw [if_pos hfin] at hres
            replace hres := Lib.hid hres; replace hfin := Lib.hid hfin
            go_wp2_with (first | (go_at_call 15; refine (from_c G.out H.out (Nat.le_of_lt hlt2.out)).mono ?_; rintro e w2 ⟨rfl, rfl⟩) | (go_at_call 21; refine (end_yes G.out H.out hlt2.out hfin.out).mono ?_; rintro e w2 ⟨rfl, F⟩; replace F := Lib.hid F) | fail)
            refine bodyPost_ret (results_tmp3 rfl _ _ _) rfl ?_
            exact ⟨by rw [hres.out, hY2.out]; rfl, F.out⟩
          · rw [if_neg hfin] at hres
            replace hres := Lib.hid hres; replace hfin := Lib.hid hfin
            go_wp2_with (first | (go_at_call 15; refine (from_c G.out H.out (Nat.le_of_lt hlt2.out)).mono ?_; rintro e w2 ⟨rfl, rfl⟩) | (go_at_call 21; refine (end_no (hi := 0) G.out H.out hlt2.out hZU.out (.inr (Nat.le_of_not_lt hfin.out))).mono ?_; rintro e w2 ⟨rfl, F⟩; replace F := Lib.hid F) | fail)
            refine bodyPost_ret (results_tmp3 rfl _ _ _) rfl ?_
            exact ⟨by rw [hres.out]; rfl, F.out⟩
        · have hVt : V < (t : Int) := by
            rw [hV, IntKind.wrap_u64]
            unfold U64 at *
            unfold cyc at *
            omega
          obtain ⟨d1, d3⟩ : decide ((t : Int) ≤ V) = false ∧ (0 : Int) = 0 := ⟨decide_eq_false (by omega), rfl⟩
          have hno2 := Lib.hid (show ∀ i, i < k + 1 → Own xs O i → t % cyc xs ≤ pre xs i → t / cyc xs * cyc xs + pre xs i < U64 → False from fun i hi ho h1 h2 => by
            by_cases hik : i = k
            · subst hik; rw [hZ2.out] at h2; exact hfound ⟨h1, h2⟩
            · exact hno.out i (by omega) ho h1 h2)
          replace hV := hV.symm
          have hlt2 := Lib.hid hlt
          clear hfound hpk hZU2 hT2 hD2 hM2 hC2 hno hVt d3
          go_wp2_with (first | (go_at_call 15; refine (from_c G.out H.out (Nat.le_of_lt hlt2.out)).mono ?_; rintro e w2 ⟨rfl, rfl⟩) | fail)
          go_roundw
          case rel => exact ⟨k + 1, by go_num, by first | trivial | rfl, Lib.hid hlt2.out, hno2⟩
          case measure => simp [intOf]; have := hlt2.out; omega
      · have e3 : (O == who) = false := beq_eq_false_iff_ne.mpr how
        have hno2 := Lib.hid (show ∀ i, i < k + 1 → Own xs who i → t % cyc xs ≤ pre xs i → t / cyc xs * cyc xs + pre xs i < U64 → False from fun i hi ho h1 h2 => by
          by_cases hik : i = k
          · subst hik; exact how (hO2.out.trans ho.2)
          · exact hno.out i (by omega) ho h1 h2)
        clear hno how
        go_wp2
        go_roundw
        case rel => exact ⟨k + 1, by go_num, by first | trivial | rfl, Lib.hid hlt, hno2⟩
        case measure => simp [intOf]; omega
    · have hno2 := Lib.hid (show ∀ i, Own xs who i → t % cyc xs ≤ pre xs i → t / cyc xs * cyc xs + pre xs i < U64 → False from fun i ho h1 h2 => hno.out i (by have := ho.1; omega) ho h1 h2)
      clear hno
      go_wp2_with fail
      clear hlt hk
      go_loopw [12] (fun kv wr2 => ∃ k : Nat, kv = .int .i64 k ∧ wr2 = wr ∧ Hid (k ≤ xs.length) ∧ Hid (∀ i, i < k → ¬ Own xs who i)) (fun kv _ => xs.length - (intOf kv).toNat)
      case atStart => exact ⟨0, rfl, rfl, Lib.hid (Nat.zero_le _), Lib.hid (fun i hi => by omega)⟩
      case round =>
        obtain ⟨k, rfl, rfl, hk, hno⟩ := hrel
        by_cases hlt : k < xs.length
        · obtain ⟨b, off, rfl, hbs, c0, c1⟩ := H.out.at hlt
          obtain ⟨O, hO⟩ : ∃ O, O = xs[k].owner := ⟨_, rfl⟩
          rw [← hO] at c0
          have hk5 : decide ((k : Int) < 0) = false := by simp
          have hk4 : (k : Int) < (xs.length : Int) := by omega
          have hO2 := Lib.hid hO
          clear c1 hO
          by_cases how : O = who
          · subst how
            have hres := nx_later G.out hlt hO2.out.symm hno.out hno2.out
            rw [hZ2.out, ← hR.out] at hres
            have hlt2 := Lib.hid hlt
            obtain ⟨h, hh⟩ : ∃ h, (Z + cyc xs) / U64 = h := ⟨_, rfl⟩
            obtain ⟨l, hl⟩ : ∃ l, (Z + cyc xs) % U64 = l := ⟨_, rfl⟩
            have hZU2 := hZU.out
            have hCU2 := hCU.out
            by_cases hfin : Z + cyc xs + pre xs (k + 1) < U64
            · rw [if_pos hfin] at hres
              have hz : h = 0 := by unfold U64 at *; omega
              have hz2 : l = Z + cyc xs := by unfold U64 at *; omega
              have hy := Lib.hid (show l + pre xs k = Z + cyc xs + pre xs k ∧ l + pre xs (k + 1) = Z + cyc xs + pre xs (k + 1) by rw [hz2]; exact ⟨rfl, rfl⟩)
              have hfin2 := Lib.hid (show l + pre xs (k + 1) < U64 by rw [hz2]; exact hfin)
              subst hz
              replace hres := Lib.hid hres; replace hh := Lib.hid hh; replace hl := Lib.hid hl; replace hz2 := Lib.hid hz2
              clear hfin hno hZU2 hCU2
              go_wp2_with (first | (go_at_call 22; refine (sum_c' _ hZU.out hCU.out hh.out hl.out).mono ?_; rintro e w2 ⟨rfl, F⟩; replace F := Lib.hid F) | (go_at_call 21; refine (end_yes G.out (key1.out _ F.out) hlt2.out hfin2.out).mono ?_; rintro e w3 ⟨rfl, F2⟩; replace F2 := Lib.hid F2) | fail)
              refine bodyPost_ret (results_tmp3 rfl _ _ _) rfl ?_
              exact ⟨by rw [hres.out, ← hy.out.1, ← hy.out.2]; rfl, belT F.out F2.out⟩
            · rw [if_neg hfin] at hres
              have hd : 0 < h ∨ U64 ≤ l + pre xs (k + 1) := by unfold U64 at *; omega
              have hlU : l < U64 := by rw [← hl]; exact Nat.mod_lt _ (by decide)
              replace hres := Lib.hid hres; replace hh := Lib.hid hh; replace hl := Lib.hid hl; replace hd := Lib.hid hd; replace hlU := Lib.hid hlU
              clear hfin hno hZU2 hCU2
              go_wp2_with (first | (go_at_call 22; refine (sum_c' _ hZU.out hCU.out hh.out hl.out).mono ?_; rintro e w2 ⟨rfl, F⟩; replace F := Lib.hid F) | (go_at_call 21; refine (end_no G.out (key1.out _ F.out) hlt2.out hlU.out hd.out).mono ?_; rintro e w3 ⟨rfl, F2⟩; replace F2 := Lib.hid F2) | fail)
              refine bodyPost_ret (results_tmp3 rfl _ _ _) rfl ?_
              exact ⟨by rw [hres.out]; rfl, belT F.out F2.out⟩
          · have e3 : (O == who) = false := beq_eq_false_iff_ne.mpr how
            have hno2 := Lib.hid (show ∀ i, i < k + 1 → ¬ Own xs who i from fun i hi ho => by
              by_cases hik : i = k
              · subst hik; exact how (hO2.out.trans ho.2)
              · exact hno.out i (by omega) ho)
            clear hno how
            go_wp2
            go_roundw
            case rel => exact ⟨k + 1, by go_num, by first | trivial | rfl, Lib.hid hlt, hno2⟩
            case measure => simp [intOf]; omega
        · have hres := nxV_none (t := t) (who := who) (xs := xs) (fun ⟨i, hi⟩ => hno.out i (by have := hi.1; omega) hi)
          rw [← hR.out] at hres
          replace hres := Lib.hid hres
          clear hno
          go_wp2
          refine bodyPost_ret (results_tmp3 rfl _ _ _) rfl ?_
          exact ⟨by rw [hres.out]; rfl, Below.refl _ _⟩
end Go.Proofs.Ytnlbcgonegeofaa
