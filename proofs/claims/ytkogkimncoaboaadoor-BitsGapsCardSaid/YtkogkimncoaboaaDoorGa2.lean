/- BitsGaps. -/
import Derived.Test.YtkogkimncoaboaaDoorSetP
namespace Go.Proofs.YtkogkimncoaboaaDoor
open Go.RowKit
set_option linter.unusedVariables false
set_option linter.unusedSimpArgs false
set_option linter.unusedSectionVars false
set_option maxRecDepth 100000

theorem gap_at {n j k : Nat} {P : Nat → Bool} (hj : j < n) (hk : k ≤ j) (hP : P j = false) (hb : ∀ i, k ≤ i → i < j → P i = true) : nextO (ofS n P) false (k : Int) = true ∧ nextV (ofS n P) false (k : Int) = j :=
  nextO_some (nextB_some (b := false) (by rw [ofS_len]; exact hj) (by simpa using hk) (by rw [ofS_at hj]; exact hP) (fun i hi h1 h2 => by
    rw [ofS_len] at hi
    rw [ofS_at hi, hb i (by simpa using h1) h2]; decide))
theorem gap_none {n k : Nat} {P : Nat → Bool} (hb : ∀ i, k ≤ i → i < n → P i = true) : nextO (ofS n P) false (k : Int) = false ∧ nextV (ofS n P) false (k : Int) = 0 :=
  nextO_none (nextB_none (fun i hi h1 => by
    rw [ofS_len] at hi
    rw [ofS_at hi, hb i (by simpa using h1) hi]; decide))
theorem count_all {n : Nat} {P : Nat → Bool} (hb : ∀ i, i < n → P i = true) : (ofS n P).count true = n := by
  have : ofS n P = List.replicate n true := by
    apply List.ext_getElem
    · rw [ofS_len]; simp
    · intro i h1 h2; rw [ofS_len] at h1; rw [ofS_at h1, hb i h1]; simp
  rw [this]; simp
def ltB (m : Nat) (i : Nat) : Bool := decide (i < m)
theorem put_lt {N n : Nat} (h : n < N) : putB (ofS N (ltB n)) (n : Int) = true ∧ putL (ofS N (ltB n)) (n : Int) = ofS N (ltB (n + 1)) := by
  constructor
  · rw [putB_of]; simp [ltB, h]
  · rw [putL_of]; exact ofS_ext fun i hi => by unfold ltB; rw [Bool.eq_iff_iff]; simp; omega
def ltN (m o : Nat) (i : Nat) : Bool := decide (i < m) && !decide (i = o)
theorem drop_lt {N o : Nat} : dropL (ofS N (ltB N)) (o : Int) = ofS N (ltN N o) := by
  rw [dropL_of]; exact ofS_ext fun i hi => by unfold ltB ltN; rw [Bool.eq_iff_iff]; simp; omega
theorem mask127 (a : Int) : ∃ N : Nat, bits .and .i64 a 127 = (N : Int) ∧ N < 128 := by
  have := and_mask 7 127 (by decide) (by decide) a
  rw [show ((2 ^ 7 : Nat) : Int) = 128 from rfl] at this
  exact ⟨(a % 128).toNat, by rw [this]; omega, by omega⟩
theorem mask1023 (a : Int) : ∃ N : Nat, bits .and .i64 a 1023 = (N : Int) ∧ N < 1024 := by
  have := and_mask 10 1023 (by decide) (by decide) a
  rw [show ((2 ^ 10 : Nat) : Int) = 1024 from rfl] at this
  exact ⟨(a % 1024).toNat, by rw [this]; omega, by omega⟩

set_option maxHeartbeats 8000000 in
theorem gaps2_walk (a o : Int) (w : World) (hT : Tab w) :
    Calls Tryd.prog 5 #[.int .i64 a, .int .i64 o] w fun e w' => e = .returned (.bool true) ∧ Below w.heap.size w w' := by
  have HT := Lib.hid hT
  clear hT
  obtain ⟨N, hN, hN2⟩ := mask127 a
  obtain ⟨M, hM, hM2⟩ := mask1023 o
  go_enter Tryd.func5, Tryd.ntmps5
  go_wp2_with fail
  refine (alive02_c w HT.out).mono ?_
  rintro e w1 ⟨rfl, hB1⟩
  go_wp2_with fail
  refine (new_s w1 N).mono ?_
  rintro e w2 ⟨p, g, rfl, S, lp, lg, B⟩
  have S0 := Lib.hid (St2.new HT.out hB1 S lp lg B)
  have hx0 : List.replicate (capB (N : Int)) false = ofS N (ltB 0) := by
    rw [show capB (N : Int) = N by unfold capB; omega, ofS_false]; exact ofS_ext fun i _ => by simp [ltB]
  rw [hx0] at S0
  clear hB1 S lp lg B hx0
  go_wp2_with fail
  go_loopw [22] (fun ii wr => ∃ (i : Nat), ii = .int .i64 i ∧ Hid (St2 w wr p g (ofS N (ltB i))) ∧ Hid (i ≤ N)) (fun ii _ => N - (intOf ii).toNat)
  case atStart => exact ⟨0, rfl, S0, Lib.hid (Nat.zero_le _)⟩
  case round =>
    clear S0
    obtain ⟨i, rfl, S, hi⟩ := hrel
    by_cases hlt : i < N
    · obtain ⟨g1, g2⟩ := gap_at (n := N) (j := i) (k := 0) (P := ltB i) hlt (Nat.zero_le _) (by simp [ltB]) (fun t _ ht => by simp [ltB, ht])
      obtain ⟨p1, p2⟩ := put_lt hlt
      replace g1 := Lib.hid g1; replace g2 := Lib.hid g2; replace p1 := Lib.hid p1; replace p2 := Lib.hid p2
      go_wp2_with fail
      refine (gap_s S.out.s S.out.tab 0).mono ?_
      rintro e w5 ⟨rfl, m1, rfl⟩
      have S1 := Lib.hid (S.out.drewN m1)
      have q1 := g1.out; have q2 := g2.out
      rw [show ((0 : Nat) : Int) = 0 from rfl] at q1 q2
      rw [q1, q2]
      clear S q1 q2 g1 g2
      generalize wr.drewN m1 = w5 at *
      go_wp2_with fail
      refine (put_s S1.out.s _).mono ?_
      rintro e w6 ⟨rfl, Q, F⟩
      rw [p2.out] at Q
      have S2 := Lib.hid (S1.out.put Q F)
      rw [p1.out]
      clear Q F S1 p1 p2
      go_wp2
      go_roundw
      case rel => exact ⟨i + 1, by go_num, S2, Lib.hid (by omega)⟩
      case measure => simp [intOf]; omega
    · obtain rfl : i = N := by have := hi.out; omega
      obtain ⟨g1, g2⟩ := gap_none (n := i) (k := 0) (P := ltB i) (fun t _ ht => by simp [ltB, ht])
      have hcn := Lib.hid (count_all (n := i) (P := ltB i) (fun t ht => by simp [ltB, ht]))
      replace g1 := Lib.hid g1; replace g2 := Lib.hid g2
      go_wp2_with fail
      clear hlt
      refine (gap_s S.out.s S.out.tab 0).mono ?_
      rintro e w5 ⟨rfl, m1, rfl⟩
      have S1 := Lib.hid (S.out.drewN m1)
      have q1 := g1.out; have q2 := g2.out
      rw [show ((0 : Nat) : Int) = 0 from rfl] at q1 q2
      rw [q1, q2]
      clear S q1 q2 g1 g2
      generalize wr.drewN m1 = w5 at *
      go_wp2_with fail
      refine (count_s S1.out.s).mono ?_
      rintro e w6 ⟨rfl, rfl⟩
      rw [hcn.out]
      by_cases hz : i = 0
      · subst hz
        have e0 : (((0 : Nat) : Int) == 0) = true := rfl
        go_wp2
        go_ret
        exact ⟨rfl, S1.out.b⟩
      have e0 : ((i : Int) == 0) = false := by rw [beq_eq_false_iff_ne]; omega
      obtain ⟨O, hO⟩ : ∃ O, O = M % i := ⟨_, rfl⟩
      have hOi : O < i := by rw [hO]; exact Nat.mod_lt _ (by omega)
      have eO : Int.tmod (M : Int) (i : Int) = (O : Int) := by rw [Int.tmod_eq_emod_of_nonneg (by omega), hO]; rfl
      have eO2 : (M : Int) % (i : Int) = (O : Int) := by rw [hO]; rfl
      have eO3 : IntKind.i64.wrap (O : Int) = (O : Int) := by rw [IntKind.wrap_i64]; omega
      have eO4 : wrap64 ((O : Int) + 1) = (O : Int) + 1 := by unfold wrap64; omega
      obtain ⟨g3, g4⟩ := gap_at (n := i) (j := O) (k := 0) (P := ltN i O) hOi (Nat.zero_le _) (by simp [ltN]) (fun t _ ht => by simp [ltN]; omega)
      obtain ⟨g5, g6⟩ := gap_none (n := i) (k := O + 1) (P := ltN i O) (fun t h1 ht => by simp [ltN, ht]; omega)
      replace g3 := Lib.hid g3; replace g4 := Lib.hid g4; replace g5 := Lib.hid g5; replace g6 := Lib.hid g6; replace hO := Lib.hid hO
      go_wp2_with fail
      refine (drop_s S1.out.s _).mono ?_
      rintro e w6 ⟨rfl, Q, F⟩
      rw [drop_lt] at Q
      have S2 := Lib.hid (S1.out.put Q F)
      clear Q F S1
      go_wp2_with fail
      refine (gap_s S2.out.s S2.out.tab 0).mono ?_
      rintro e w7 ⟨rfl, m2, rfl⟩
      have S3 := Lib.hid (S2.out.drewN m2)
      have q1 := g3.out; have q2 := g4.out
      rw [show ((0 : Nat) : Int) = 0 from rfl] at q1 q2
      rw [q1, q2]
      clear S2 q1 q2 g3 g4
      generalize w6.drewN m2 = w7 at *
      go_wp2_with fail
      refine (gap_s S3.out.s S3.out.tab _).mono ?_
      rintro e w8 ⟨rfl, m3, rfl⟩
      have S4 := Lib.hid (S3.out.drewN m3)
      have q1 := g5.out; have q2 := g6.out
      rw [show ((O + 1 : Nat) : Int) = (O : Int) + 1 from rfl] at q1 q2
      rw [q1, q2]
      clear S3 q1 q2 g5 g6
      go_wp2
      go_ret
      exact ⟨rfl, S4.out.b⟩
end Go.Proofs.YtkogkimncoaboaaDoor
