/- ChainApart. -/
import Derived.Test.YtdgcppglpmlgkaaOpC
namespace Go.Proofs.Ytdgcppglpmlgkaa
open Go.RowKit
set_option linter.unusedVariables false
set_option linter.unusedSimpArgs false

/-- Both lists, and each alone. -/
structure AI (R R0 R1 : Nat → List Nat) : Prop where
  v0 : ∀ x ∈ R 0, x % 2 = 0
  v1 : ∀ x ∈ R 1, x % 2 = 1
  s0 : R0 0 = R 0
  n0 : R0 1 = []
  s1 : R1 1 = R 1
  n1 : R1 0 = []
theorem AI.start : AI c0 c0 c0 := ⟨(fun _ h => by cases h), (fun _ h => by cases h), rfl, rfl, rfl, rfl⟩
theorem isOn2 (R : Nat → List Nat) (k : Nat) : isOn 2 R k = (decide (k ∈ R 0) || decide (k ∈ R 1)) := by
  simp [isOn, List.range_succ]
theorem AI.on0 {R R0 R1 : Nat → List Nat} (h : AI R R0 R1) {k : Nat} (hk : k % 2 = 0) : isOn 2 R0 k = isOn 2 R k := by
  rw [isOn2, isOn2, h.s0, h.n0]
  have : k ∉ R 1 := fun hm => by have := h.v1 k hm; omega
  simp [this]
theorem AI.on1 {R R0 R1 : Nat → List Nat} (h : AI R R0 R1) {k : Nat} (hk : k % 2 = 1) : isOn 2 R1 k = isOn 2 R k := by
  rw [isOn2, isOn2, h.s1, h.n1]
  have : k ∉ R 0 := fun hm => by have := h.v0 k hm; omega
  simp [this]
theorem AI.can0 {R R0 R1 : Nat → List Nat} (h : AI R R0 R1) {k : Nat} (hk : k % 2 = 0) : canPush 64 2 R0 0 k = canPush 64 2 R 0 k := by
  unfold canPush; rw [Int.toNat_natCast, h.on0 hk]
theorem AI.can1 {R R0 R1 : Nat → List Nat} (h : AI R R0 R1) {k : Nat} (hk : k % 2 = 1) : canPush 64 2 R1 1 k = canPush 64 2 R 1 k := by
  unfold canPush; rw [Int.toNat_natCast, h.on1 hk]
theorem AI.onB0 {R R0 R1 : Nat → List Nat} (h : AI R R0 R1) {k : Nat} (hk : k % 2 = 0) : onB 2 R0 k = onB 2 R k := by
  unfold onB; rw [Int.toNat_natCast, h.on0 hk]
theorem AI.onB1 {R R0 R1 : Nat → List Nat} (h : AI R R0 R1) {k : Nat} (hk : k % 2 = 1) : onB 2 R1 k = onB 2 R k := by
  unfold onB; rw [Int.toNat_natCast, h.on1 hk]
theorem AI.push0 {R R0 R1 : Nat → List Nat} (h : AI R R0 R1) {k : Nat} (hk : k % 2 = 0) : AI (pushR 64 2 R 0 k) (pushR 64 2 R0 0 k) R1 := by
  unfold pushR
  rw [h.can0 hk]
  by_cases hc : canPush 64 2 R 0 k = true
  · rw [if_pos hc, if_pos hc]
    exact ⟨fun x hx => by
      simp only [updR, Int.toNat_zero, Int.toNat_natCast, if_true, List.mem_append, List.mem_singleton] at hx
      rcases hx with hx | rfl
      · exact h.v0 x hx
      · exact hk, h.v1, by simp [updR, h.s0], h.n0, h.s1, h.n1⟩
  · rw [if_neg hc, if_neg hc]; exact h
theorem AI.push1 {R R0 R1 : Nat → List Nat} (h : AI R R0 R1) {k : Nat} (hk : k % 2 = 1) : AI (pushR 64 2 R 1 k) R0 (pushR 64 2 R1 1 k) := by
  unfold pushR
  rw [h.can1 hk]
  by_cases hc : canPush 64 2 R 1 k = true
  · rw [if_pos hc, if_pos hc]
    exact ⟨h.v0, fun x hx => by
      simp only [updR, Int.toNat_one, Int.toNat_natCast, if_true, List.mem_append, List.mem_singleton] at hx
      rcases hx with hx | rfl
      · exact h.v1 x hx
      · exact hk, h.s0, h.n0, by simp [updR, h.s1], h.n1⟩
  · rw [if_neg hc, if_neg hc]; exact h
theorem AI.pull0 {R R0 R1 : Nat → List Nat} (h : AI R R0 R1) {k : Nat} (hk : k % 2 = 0) : AI (pullR 2 R k) (pullR 2 R0 k) R1 := by
  unfold pullR
  rw [h.onB0 hk]
  by_cases hc : onB 2 R k = true
  · rw [if_pos hc, if_pos hc]
    have : k ∉ R 1 := fun hm => by have := h.v1 k hm; omega
    have e : (R 1).erase k = R 1 := List.erase_of_not_mem this
    exact ⟨fun x hx => h.v0 x (List.mem_of_mem_erase hx), fun x hx => h.v1 x (List.mem_of_mem_erase hx), by simp [h.s0], by simp [h.n0], by simp [h.s1, e], h.n1⟩
  · rw [if_neg hc, if_neg hc]; exact h
theorem AI.pull1 {R R0 R1 : Nat → List Nat} (h : AI R R0 R1) {k : Nat} (hk : k % 2 = 1) : AI (pullR 2 R k) R0 (pullR 2 R1 k) := by
  unfold pullR
  rw [h.onB1 hk]
  by_cases hc : onB 2 R k = true
  · rw [if_pos hc, if_pos hc]
    have : k ∉ R 0 := fun hm => by have := h.v0 k hm; omega
    have e : (R 0).erase k = R 0 := List.erase_of_not_mem this
    exact ⟨fun x hx => h.v0 x (List.mem_of_mem_erase hx), fun x hx => h.v1 x (List.mem_of_mem_erase hx), by simp [h.s0, e], by simp [h.n0], by simp [h.s1], by simp [h.n1]⟩
  · rw [if_neg hc, if_neg hc]; exact h

set_option maxHeartbeats 8000000 in
set_option maxRecDepth 100000 in
theorem apart_walk (A : Option Addr) (c : Nat) (xs : List Op) (w : World) (hr : RowAt Op.cells 3 w A xs) :
    Calls Try.prog 11 #[.slice A xs.length c] w fun e w' => e = .returned (.bool true) ∧ Below w.heap.size w w' := by
  by_cases hbig : 50 < xs.length
  · have hb1 : decide ((50 : Int) < (xs.length : Int)) = true := by simp; omega
    go_enter Try.func11, Try.ntmps11
    go_wp2_with fail
    refine (alive_c w).mono ?_
    rintro e w1 ⟨rfl, hB1⟩
    have HB1 := Lib.hid hB1
    clear hB1
    go_wp2
    go_ret
    exact ⟨rfl, HB1.out⟩
  · have hb1 : decide ((50 : Int) < (xs.length : Int)) = false := by simp; omega
    have hbig := Lib.hid hbig
    have HR := Lib.hid hr
    clear hr
    go_enter Try.func11, Try.ntmps11
    go_wp2_with fail
    refine (alive_c w).mono ?_
    rintro e w1 ⟨rfl, hB1⟩
    have HB1 := Lib.hid hB1
    clear hB1
    go_wp2_with fail
    refine (new_i w1 64 2 64 2 rfl rfl).mono ?_
    rintro e w2 ⟨p, L, M, rfl, G, bp, bL, bM, B2⟩
    have HB2 := Lib.hid (HB1.out.trans (B2.mono HB1.out.size))
    have I := Lib.hid (show In3 w1.heap.size w2.heap.size p L M from ⟨bp, G.lt.1, bL, G.lt.2.1, bM, G.lt.2.2.1⟩)
    have Z1 := Lib.hid (show w.heap.size ≤ w1.heap.size from HB1.out.size)
    clear bp bL bM B2 HB1
    go_wp2_with fail
    refine (new_i w2 64 2 64 2 rfl rfl).mono ?_
    rintro e w3 ⟨p0, L0, M0, rfl, G0, bp, bL, bM, B2⟩
    have HB3 := Lib.hid (HB2.out.trans (B2.mono HB2.out.size))
    have I0 := Lib.hid (show In3 w2.heap.size w3.heap.size p0 L0 M0 from ⟨bp, G0.lt.1, bL, G0.lt.2.1, bM, G0.lt.2.2.1⟩)
    replace G := G.below B2 (Nat.le_refl _)
    have Z2 := Lib.hid (show w.heap.size ≤ w2.heap.size from HB2.out.size)
    clear bp bL bM B2 HB2
    go_wp2_with fail
    refine (new_i w3 64 2 64 2 rfl rfl).mono ?_
    rintro e w4 ⟨p1, L1, M1, rfl, G1, bp, bL, bM, B2⟩
    have HB4 := Lib.hid (HB3.out.trans (B2.mono HB3.out.size))
    have I1 := Lib.hid (show In3 w3.heap.size w4.heap.size p1 L1 M1 from ⟨bp, G1.lt.1, bL, G1.lt.2.1, bM, G1.lt.2.2.1⟩)
    replace G := G.below (B2.mono (Nat.le_refl _)) (by have := I0.out; have := B2.size; exact HB3.out.size |> fun _ => (by first | exact Nat.le_refl _ | omega))
    replace G0 := G0.below B2 (Nat.le_refl _)
    have Z3 := Lib.hid (show w.heap.size ≤ w3.heap.size from HB3.out.size)
    clear bp bL bM B2 HB3
    have D := Lib.hid AI.start
    replace G := Lib.hid G; replace G0 := Lib.hid G0; replace G1 := Lib.hid G1
    go_wp2_with fail
    go_loopw [21] (fun i wr => ∃ (k : Nat) (R R0 R1 : Nat → List Nat), i = .int .i64 k ∧ Hid (k ≤ xs.length) ∧ Hid (AI R R0 R1) ∧ Hid (ChI wr p L M 64 2 R) ∧ Hid (ChI wr p0 L0 M0 64 2 R0) ∧ Hid (ChI wr p1 L1 M1 64 2 R1) ∧ Hid (Below w.heap.size w wr)) (fun i _ => xs.length - (intOf i).toNat)
    case atStart => exact ⟨0, c0, c0, c0, rfl, Lib.hid (Nat.zero_le _), D, G, G0, G1, HB4⟩
    case round =>
      obtain ⟨k, R, R0, R1, rfl, hk, D1, K, K0, K1, HB⟩ := hrel
      clear G G0 G1 D HB4
      by_cases hlt : k < xs.length
      · obtain ⟨b, off, rfl, hbl, hc⟩ := HR.out k hlt
        have hz0 := (HB.out.cell (p := ⟨b, off + k * 3 + 0, none⟩) hbl).trans (hc 0 _ rfl)
        have hz1 := (HB.out.cell (p := ⟨b, off + k * 3 + 1, none⟩) hbl).trans (hc 1 _ rfl)
        have hz2 := (HB.out.cell (p := ⟨b, off + k * 3 + 2, none⟩) hbl).trans (hc 2 _ rfl)
        rw [Nat.add_zero] at hz0
        generalize xs[k] = z at *
        clear hc hbl
        have hB0 := Below.alloc (Below.refl wr.heap.size wr) (Nat.le_refl _) (.cells #[.int .i64 z.kind, .int .i64 z.list, .int .i64 z.k] 56)
        have Ka := Lib.hid (K.out.below hB0 (Nat.le_refl _))
        have K0a := Lib.hid (K0.out.below hB0 (Nat.le_refl _))
        have K1a := Lib.hid (K1.out.below hB0 (Nat.le_refl _))
        have HBa := Lib.hid (HB.out.alloc HB.out.size (.cells #[.int .i64 z.kind, .int .i64 z.list, .int .i64 z.k] 56))
        clear K K0 K1 HB hB0
        rcases mask1 z.list with hL | hL
        · obtain ⟨kn, hK, hk64, hk2⟩ := mixed z.k 0 (by omega)
          replace hk2 := Lib.hid hk2
          replace hK : bits .or .i64 (bits .and .i64 z.k 30) 0 = kn := hK
          have hkr : (kn : Int) < 64 := by omega
          by_cases q0 : z.kind = 0
          · have b0 : (z.kind == 0) = true := beq_iff_eq.mpr q0
            have b1 : (z.kind == 1) = false := beq_eq_false_iff_ne.mpr (by omega)
            clear q0
            go_wp2_with fail
            refine (push_i Ka.out 0 kn).mono ?_
            rintro e w5 ⟨rfl, X, F5⟩
            have X0 := K0a.out.other F5 I0.out I.out (by have i1 := I.out; have i2 := I0.out; have i3 := I1.out; unfold In3 at i1 i2 i3; omega)
            have X1 := K1a.out.other F5 I1.out I.out (by have i1 := I.out; have i2 := I0.out; have i3 := I1.out; unfold In3 at i1 i2 i3; omega)
            have HB5 := below_chain HBa F5 (Nat.le_refl _) (Nat.le_trans Z1.out I.out.2.2.1) (Nat.le_trans Z1.out I.out.2.2.2.2.1)
            clear Ka K0a K1a HBa F5
            go_wp2_with fail
            refine (push_i X0 0 kn).mono ?_
            rintro e w6 ⟨rfl, Y0, F6⟩
            have Y := X.other F6 I.out I0.out (by have i1 := I.out; have i2 := I0.out; have i3 := I1.out; unfold In3 at i1 i2 i3; omega)
            have Y1 := X1.other F6 I1.out I0.out (by have i1 := I.out; have i2 := I0.out; have i3 := I1.out; unfold In3 at i1 i2 i3; omega)
            have HB6 := below_chain HB5 F6 (Nat.le_refl _) (Nat.le_trans Z2.out I0.out.2.2.1) (Nat.le_trans Z2.out I0.out.2.2.2.2.1)
            clear X X0 X1 F6 HB5
            rw [D1.out.can0 hk2.out]
            replace Y := Lib.hid Y; replace Y0 := Lib.hid Y0; replace Y1 := Lib.hid Y1
            generalize canPush 64 2 R 0 kn = bb at *
            go_wp2
            go_roundw
            case rel => exact ⟨k + 1, _, _, _, by go_num, Lib.hid (by omega), Lib.hid (D1.out.push0 hk2.out), Y, Y0, Y1, HB6⟩
            case measure => simp [intOf]; omega
          · have b0 : (z.kind == 0) = false := beq_eq_false_iff_ne.mpr q0
            by_cases q1 : z.kind = 1
            · have b1 : (z.kind == 1) = true := beq_iff_eq.mpr q1
              clear q0 q1
              go_wp2_with fail
              refine (pull_i Ka.out kn).mono ?_
              rintro e w5 ⟨rfl, X, F5⟩
              have X0 := K0a.out.other F5 I0.out I.out (by have i1 := I.out; have i2 := I0.out; have i3 := I1.out; unfold In3 at i1 i2 i3; omega)
              have X1 := K1a.out.other F5 I1.out I.out (by have i1 := I.out; have i2 := I0.out; have i3 := I1.out; unfold In3 at i1 i2 i3; omega)
              have HB5 := below_chain HBa F5 (Nat.le_refl _) (Nat.le_trans Z1.out I.out.2.2.1) (Nat.le_trans Z1.out I.out.2.2.2.2.1)
              clear Ka K0a K1a HBa F5
              go_wp2_with fail
              refine (pull_i X0 kn).mono ?_
              rintro e w6 ⟨rfl, Y0, F6⟩
              have Y := X.other F6 I.out I0.out (by have i1 := I.out; have i2 := I0.out; have i3 := I1.out; unfold In3 at i1 i2 i3; omega)
              have Y1 := X1.other F6 I1.out I0.out (by have i1 := I.out; have i2 := I0.out; have i3 := I1.out; unfold In3 at i1 i2 i3; omega)
              have HB6 := below_chain HB5 F6 (Nat.le_refl _) (Nat.le_trans Z2.out I0.out.2.2.1) (Nat.le_trans Z2.out I0.out.2.2.2.2.1)
              clear X X0 X1 F6 HB5
              rw [D1.out.onB0 hk2.out]
              replace Y := Lib.hid Y; replace Y0 := Lib.hid Y0; replace Y1 := Lib.hid Y1
              generalize onB 2 R kn = bb at *
              go_wp2
              go_roundw
              case rel => exact ⟨k + 1, _, _, _, by go_num, Lib.hid (by omega), Lib.hid (D1.out.pull0 hk2.out), Y, Y0, Y1, HB6⟩
              case measure => simp [intOf]; omega
            · have b1 : (z.kind == 1) = false := beq_eq_false_iff_ne.mpr q1
              clear q0 q1
              go_wp2
              go_roundw
              case rel => exact ⟨k + 1, _, _, _, by go_num, Lib.hid (by omega), D1, Ka, K0a, K1a, HBa⟩
              case measure => simp [intOf]; omega
        · obtain ⟨kn, hK, hk64, hk2⟩ := mixed z.k 1 (by omega)
          replace hk2 := Lib.hid hk2
          replace hK : bits .or .i64 (bits .and .i64 z.k 30) 1 = kn := hK
          have hkr : (kn : Int) < 64 := by omega
          by_cases q0 : z.kind = 0
          · have b0 : (z.kind == 0) = true := beq_iff_eq.mpr q0
            have b1 : (z.kind == 1) = false := beq_eq_false_iff_ne.mpr (by omega)
            clear q0
            go_wp2_with fail
            refine (push_i Ka.out 1 kn).mono ?_
            rintro e w5 ⟨rfl, X, F5⟩
            have X1 := K1a.out.other F5 I1.out I.out (by have i1 := I.out; have i2 := I0.out; have i3 := I1.out; unfold In3 at i1 i2 i3; omega)
            have X0 := K0a.out.other F5 I0.out I.out (by have i1 := I.out; have i2 := I0.out; have i3 := I1.out; unfold In3 at i1 i2 i3; omega)
            have HB5 := below_chain HBa F5 (Nat.le_refl _) (Nat.le_trans Z1.out I.out.2.2.1) (Nat.le_trans Z1.out I.out.2.2.2.2.1)
            clear Ka K0a K1a HBa F5
            go_wp2_with fail
            refine (push_i X1 1 kn).mono ?_
            rintro e w6 ⟨rfl, Y1, F6⟩
            have Y := X.other F6 I.out I1.out (by have i1 := I.out; have i2 := I0.out; have i3 := I1.out; unfold In3 at i1 i2 i3; omega)
            have Y0 := X0.other F6 I0.out I1.out (by have i1 := I.out; have i2 := I0.out; have i3 := I1.out; unfold In3 at i1 i2 i3; omega)
            have HB6 := below_chain HB5 F6 (Nat.le_refl _) (Nat.le_trans Z3.out I1.out.2.2.1) (Nat.le_trans Z3.out I1.out.2.2.2.2.1)
            clear X X0 X1 F6 HB5
            rw [D1.out.can1 hk2.out]
            replace Y := Lib.hid Y; replace Y0 := Lib.hid Y0; replace Y1 := Lib.hid Y1
            generalize canPush 64 2 R 1 kn = bb at *
            go_wp2
            go_roundw
            case rel => exact ⟨k + 1, _, _, _, by go_num, Lib.hid (by omega), Lib.hid (D1.out.push1 hk2.out), Y, Y0, Y1, HB6⟩
            case measure => simp [intOf]; omega
          · have b0 : (z.kind == 0) = false := beq_eq_false_iff_ne.mpr q0
            by_cases q1 : z.kind = 1
            · have b1 : (z.kind == 1) = true := beq_iff_eq.mpr q1
              clear q0 q1
              go_wp2_with fail
              refine (pull_i Ka.out kn).mono ?_
              rintro e w5 ⟨rfl, X, F5⟩
              have X1 := K1a.out.other F5 I1.out I.out (by have i1 := I.out; have i2 := I0.out; have i3 := I1.out; unfold In3 at i1 i2 i3; omega)
              have X0 := K0a.out.other F5 I0.out I.out (by have i1 := I.out; have i2 := I0.out; have i3 := I1.out; unfold In3 at i1 i2 i3; omega)
              have HB5 := below_chain HBa F5 (Nat.le_refl _) (Nat.le_trans Z1.out I.out.2.2.1) (Nat.le_trans Z1.out I.out.2.2.2.2.1)
              clear Ka K0a K1a HBa F5
              go_wp2_with fail
              refine (pull_i X1 kn).mono ?_
              rintro e w6 ⟨rfl, Y1, F6⟩
              have Y := X.other F6 I.out I1.out (by have i1 := I.out; have i2 := I0.out; have i3 := I1.out; unfold In3 at i1 i2 i3; omega)
              have Y0 := X0.other F6 I0.out I1.out (by have i1 := I.out; have i2 := I0.out; have i3 := I1.out; unfold In3 at i1 i2 i3; omega)
              have HB6 := below_chain HB5 F6 (Nat.le_refl _) (Nat.le_trans Z3.out I1.out.2.2.1) (Nat.le_trans Z3.out I1.out.2.2.2.2.1)
              clear X X0 X1 F6 HB5
              rw [D1.out.onB1 hk2.out]
              replace Y := Lib.hid Y; replace Y0 := Lib.hid Y0; replace Y1 := Lib.hid Y1
              generalize onB 2 R kn = bb at *
              go_wp2
              go_roundw
              case rel => exact ⟨k + 1, _, _, _, by go_num, Lib.hid (by omega), Lib.hid (D1.out.pull1 hk2.out), Y, Y0, Y1, HB6⟩
              case measure => simp [intOf]; omega
            · have b1 : (z.kind == 1) = false := beq_eq_false_iff_ne.mpr q1
              clear q0 q1
              go_wp2
              go_roundw
              case rel => exact ⟨k + 1, _, _, _, by go_num, Lib.hid (by omega), D1, Ka, K0a, K1a, HBa⟩
              case measure => simp [intOf]; omega
      · clear hk
        have hr0 : rowI R0 0 = rowI R 0 := D1.out.s0
        have hr1 : rowI R1 1 = rowI R 1 := D1.out.s1
        go_wp2_with fail
        refine (all_i K.out 0).mono ?_
        rintro e w5 ⟨v, rfl, O, F5⟩
        have X0 := K0.out.below F5 (Nat.le_refl _)
        have X1 := K1.out.below F5 (Nat.le_refl _)
        have X := K.out.below F5 (Nat.le_refl _)
        have HB5 := Lib.hid (HB.out.trans (F5.mono HB.out.size))
        obtain ⟨AA, ca, rfl, ra, hca, _⟩ := O.form
        clear K K0 K1 HB F5 O hca
        go_wp2_with fail
        refine (all_i X0 0).mono ?_
        rintro e w6 ⟨v, rfl, O, F6⟩
        rw [hr0] at O
        replace ra := ra.below F6
        have Y0 := X0.below F6 (Nat.le_refl _)
        have Y1 := X1.below F6 (Nat.le_refl _)
        have Y := X.below F6 (Nat.le_refl _)
        have HB6 := Lib.hid (HB5.out.trans (F6.mono HB5.out.size))
        obtain ⟨AB, cb, rfl, rb, hcb, _⟩ := O.form
        clear X X0 X1 HB5 F6 O hcb
        go_wp2_with fail
        refine (same_c ra rb (Y.natLen 0) (Y.natLen 0)).mono ?_
        rintro e w7 ⟨rfl, F7⟩
        rw [decide_eq_true (rfl : natsI (rowI R 0) = natsI (rowI R 0))]
        have X0 := Y0.below F7 (Nat.le_refl _)
        have X1 := Y1.below F7 (Nat.le_refl _)
        have X := Y.below F7 (Nat.le_refl _)
        have HB7 := Lib.hid (HB6.out.trans (F7.mono HB6.out.size))
        clear Y Y0 Y1 HB6 F7 ra rb
        go_wp2_with fail
        refine (all_i X 1).mono ?_
        rintro e w5 ⟨v, rfl, O, F5⟩
        have Y0 := X0.below F5 (Nat.le_refl _)
        have Y1 := X1.below F5 (Nat.le_refl _)
        have Y := X.below F5 (Nat.le_refl _)
        have HB5 := Lib.hid (HB7.out.trans (F5.mono HB7.out.size))
        obtain ⟨AA, ca, rfl, ra, hca, _⟩ := O.form
        clear X X0 X1 HB7 F5 O hca
        go_wp2_with fail
        refine (all_i Y1 1).mono ?_
        rintro e w6 ⟨v, rfl, O, F6⟩
        rw [hr1] at O
        replace ra := ra.below F6
        have X0 := Y0.below F6 (Nat.le_refl _)
        have X1 := Y1.below F6 (Nat.le_refl _)
        have X := Y.below F6 (Nat.le_refl _)
        have HB6 := Lib.hid (HB5.out.trans (F6.mono HB5.out.size))
        obtain ⟨AB, cb, rfl, rb, hcb, _⟩ := O.form
        clear Y Y0 Y1 HB5 F6 O hcb
        go_wp2_with fail
        refine (same_c ra rb (X.natLen 1) (X.natLen 1)).mono ?_
        rintro e w7 ⟨rfl, F7⟩
        rw [decide_eq_true (rfl : natsI (rowI R 1) = natsI (rowI R 1))]
        have Y0 := X0.below F7 (Nat.le_refl _)
        have Y1 := X1.below F7 (Nat.le_refl _)
        have Y := X.below F7 (Nat.le_refl _)
        have HB7 := Lib.hid (HB6.out.trans (F7.mono HB6.out.size))
        clear X X0 X1 HB6 F7 ra rb
        go_wp2_with fail
        refine (len_i Y 0).mono ?_
        rintro e w8 ⟨rfl, rfl⟩
        go_wp2_with fail
        refine (len_i Y0 0).mono ?_
        rintro e w8 ⟨rfl, rfl⟩
        rw [hr0]
        go_wp2_with fail
        refine (len_i Y 1).mono ?_
        rintro e w8 ⟨rfl, rfl⟩
        go_wp2_with fail
        refine (len_i Y1 1).mono ?_
        rintro e w8 ⟨rfl, rfl⟩
        rw [hr1]
        clear Y Y0 Y1 hr0 hr1
        go_wp2
        go_ret
        exact ⟨rfl, HB7.out⟩
end Go.Proofs.Ytdgcppglpmlgkaa
