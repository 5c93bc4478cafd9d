/- BitsApart. -/
import Derived.Test.YtkogkimncoaboaaDoorAl2
import Derived.Test.YtkogkimncoaboaaDoorBits
import Derived.Test.YtkogkimncoaboaaDoorRow
namespace Go.Proofs.YtkogkimncoaboaaDoor
open Go.RowKit
set_option linter.unusedVariables false
set_option linter.unusedSimpArgs false
set_option linter.unusedSectionVars false
set_option maxRecDepth 100000

theorem putL_len (X : List Bool) (k : Int) : (putL X k).length = X.length := by unfold putL; split <;> simp
theorem dropL_len (X : List Bool) (k : Int) : (dropL X k).length = X.length := by unfold dropL; split <;> simp
theorem mask255 (a : Int) : ∃ K : Nat, bits .and .i64 a 255 = (K : Int) ∧ K < 256 := by
  have := and_mask 8 255 (by decide) (by decide) a
  rw [show ((2 ^ 8 : Nat) : Int) = 256 from rfl] at this
  exact ⟨(a % 256).toNat, by rw [this]; omega, by omega⟩
theorem hasB_self {X : List Bool} {K : Nat} (h : K < X.length) (b : Bool) : hasB (X.set K b) (K : Int) = b := by
  rw [hasB_nat (by rw [List.length_set]; exact h), List.getElem_set_self]
theorem hasB_other {X : List Bool} {K O : Nat} (h : K ≠ O) (hO : O < X.length) (b : Bool) : hasB (X.set K b) (O : Int) = hasB X (O : Int) := by
  rw [hasB_nat (by rw [List.length_set]; exact hO), hasB_nat hO, List.getElem_set_ne h]
theorem putB_has {X : List Bool} {K : Nat} (h : K < X.length) : putB X (K : Int) = !hasB X (K : Int) := by rw [putB_nat h, hasB_nat h]
theorem putL_yes {X : List Bool} {K : Nat} (h : K < X.length) (hh : hasB X (K : Int) = false) : putL X (K : Int) = X.set K true := by unfold putL; rw [putB_has h, hh]; rfl
theorem putL_no {X : List Bool} {K : Nat} (h : K < X.length) (hh : hasB X (K : Int) = true) : putL X (K : Int) = X := by unfold putL; rw [putB_has h, hh]; rfl
theorem dropL_yes {X : List Bool} {K : Nat} (hh : hasB X (K : Int) = true) : dropL X (K : Int) = X.set K false := by unfold dropL; rw [hh]; rfl
theorem dropL_no {X : List Bool} {k : Int} (hh : hasB X k = false) : dropL X k = X := by unfold dropL; rw [hh]; rfl
theorem count_put {X : List Bool} {K : Nat} (h : K < X.length) (hh : hasB X (K : Int) = false) : (X.set K true).count true = X.count true + 1 := by
  have := count_set h true
  rw [hasB_nat h] at hh
  rw [hh] at this
  simpa using this

set_option maxHeartbeats 8000000 in
theorem apart2_walk (A0 : Option Addr) (c0 : Nat) (xs : List Int) (k o : Int) (w : World) (hT : Tab w) (hr : RowAt (fun x : Int => [.int .i64 x]) 1 w A0 xs) :
    Calls Tryd.prog 7 #[.slice A0 xs.length c0, .int .i64 k, .int .i64 o] w fun e w' => e = .returned (.bool true) ∧ Below w.heap.size w w' := by
  have HR := Lib.hid hr
  have HT := Lib.hid hT
  clear hr hT
  by_cases hbig : 40 < xs.length
  · have hb1 : decide ((40 : Int) < (xs.length : Int)) = true := by simp; omega
    go_enter Tryd.func7, Tryd.ntmps7
    go_wp2_with fail
    refine (alive02_c w HT.out).mono ?_
    rintro e w1 ⟨rfl, hB1⟩
    have HB1 := Lib.hid hB1
    clear hB1
    go_wp2
    go_ret
    exact ⟨rfl, HB1.out⟩
  have hb1 : decide ((40 : Int) < (xs.length : Int)) = false := by simp; omega
  obtain ⟨K, hK, hK2⟩ := mask255 k
  obtain ⟨O, hO, hO2⟩ := mask255 o
  replace hbig := Lib.hid hbig
  go_enter Tryd.func7, Tryd.ntmps7
  go_wp2_with fail
  refine (alive02_c w HT.out).mono ?_
  rintro e w1 ⟨rfl, hB1⟩
  go_wp2_with fail
  refine (new_s w1 256).mono ?_
  rintro e w2 ⟨p, g, rfl, S, lp, lg, B⟩
  have S0 := Lib.hid (St2.new HT.out hB1 S lp lg B)
  have hX0 := Lib.hid (show (List.replicate (capB 256) false).length = 256 by decide)
  generalize List.replicate (capB 256) false = X0 at *
  clear hB1 S lp lg B
  go_wp2_with fail
  go_loopw [21] (fun ii wr => ∃ (i : Nat) (X : List Bool), ii = .int .i64 i ∧ Hid (St2 w wr p g X) ∧ Hid (X.length = 256) ∧ Hid (i ≤ xs.length)) (fun ii _ => xs.length - (intOf ii).toNat)
  case atStart => exact ⟨0, _, rfl, S0, hX0, Lib.hid (Nat.zero_le _)⟩
  case round =>
    clear S0 hX0
    obtain ⟨i, X, rfl, S, hX, hi⟩ := hrel
    by_cases hlt : i < xs.length
    · have hi41 : i < 41 := by have := hbig.out; omega
      obtain ⟨b, off, rfl, hbl, hc⟩ := HR.out i hlt
      have hz0 := (S.out.b.cell (p := ⟨b, off + i * 1 + 0, none⟩) hbl).trans (hc 0 _ rfl)
      rw [Nat.add_zero, Nat.mul_one] at hz0
      generalize xs[i] = z at *
      clear hc hbl
      go_wp2_with fail
      refine (put_s S.out.s _).mono ?_
      rintro e w3 ⟨rfl, K, F⟩
      have S2 := Lib.hid (S.out.put K F)
      have hX2 := Lib.hid (show (putL X (bits .and .i64 z 255)).length = 256 by rw [putL_len]; exact hX.out)
      clear K F S
      go_wp2
      go_roundw
      case rel => exact ⟨i + 1, _, by go_num, S2, hX2, Lib.hid (by omega)⟩
      case measure => simp [intOf]; omega
    · have hKX : K < X.length := by rw [hX.out]; exact hK2
      have hOX : O < X.length := by rw [hX.out]; exact hO2
      have hput := putB_has hKX
      obtain ⟨hs, hhs⟩ : ∃ hs, hs = hasB X (O : Int) := ⟨_, rfl⟩
      have hcl := count_le X
      obtain ⟨n, hn⟩ : ∃ n, n = X.count true := ⟨_, rfl⟩
      have hn256 : n ≤ 256 := by rw [hn]; have := hX.out; omega
      have ew : wrap64 ((n : Int) + 1) = (n : Int) + 1 := by unfold wrap64; omega
      have en : ((n : Int) + 1 != (n : Int)) = true := by simp; omega
      replace hhs := Lib.hid hhs; replace hn := Lib.hid hn; replace hput := Lib.hid hput; replace hcl := Lib.hid hcl; replace hKX := Lib.hid hKX; replace hOX := Lib.hid hOX
      cases hh : hasB X (K : Int) with
      | false =>
        by_cases hko : K = O
        · subst hko
          have ek : ((K : Int) == (K : Int)) = true := by simp
          have hH := Lib.hid hh
          clear hh
          go_wp2_with fail
          refine (has_s S.out.s _).mono ?_
          rintro e w9 ⟨rfl, rfl⟩
          rw [hH.out]
          go_wp2_with fail
          refine (has_s S.out.s _).mono ?_
          rintro e w9 ⟨rfl, rfl⟩
          rw [← hhs.out]
          go_wp2_with fail
          refine (count_s S.out.s).mono ?_
          rintro e w9 ⟨rfl, rfl⟩
          rw [← hn.out]
          go_wp2_with fail
          refine (put_s S.out.s _).mono ?_
          rintro e w9 ⟨rfl, Q, F⟩
          rw [putL_yes hKX.out hH.out] at Q
          have S1 := Lib.hid (S.out.put Q F)
          rw [hput.out, hH.out]
          clear Q F
          go_wp2_with fail
          refine (has_s S1.out.s _).mono ?_
          rintro e w9 ⟨rfl, rfl⟩
          rw [hasB_self hKX.out true]
          go_wp2_with fail
          refine (count_s S1.out.s).mono ?_
          rintro e w10 ⟨rfl, rfl⟩
          rw [show (((X.set K true).count true : Nat) : Int) = (n : Int) + 1 by rw [count_put hKX.out hH.out, ← hn.out]; rfl]
          go_wp2_with fail
          refine (count_s S1.out.s).mono ?_
          rintro e w10 ⟨rfl, rfl⟩
          rw [show (((X.set K true).count true : Nat) : Int) = (n : Int) + 1 by rw [count_put hKX.out hH.out, ← hn.out]; rfl]
          have hk1 := Lib.hid (show hasB (X.set K true) (K : Int) = true from hasB_self hKX.out true)
          go_wp2_with fail
          refine (drop_s S1.out.s _).mono ?_
          rintro e w11 ⟨rfl, Q, F⟩
          rw [dropL_yes hk1.out] at Q
          have S2 := Lib.hid (S1.out.put Q F)
          rw [hk1.out]
          clear Q F
          have hk2 := Lib.hid (show hasB ((X.set K true).set K false) (K : Int) = false from hasB_self (by rw [List.length_set]; exact hKX.out) false)
          go_wp2_with fail
          refine (has_s S2.out.s _).mono ?_
          rintro e w9 ⟨rfl, rfl⟩
          rw [hk2.out]
          go_wp2_with fail
          refine (drop_s S2.out.s _).mono ?_
          rintro e w12 ⟨rfl, Q, F⟩
          rw [dropL_no hk2.out] at Q
          have S3 := Lib.hid (S2.out.put Q F)
          rw [hk2.out]
          clear Q F
          go_wp2
          go_ret
          exact ⟨rfl, S3.out.b⟩
        · have ek : ((K : Int) == (O : Int)) = false := by rw [beq_eq_false_iff_ne]; omega
          have ek2 : ((K : Int) != (O : Int)) = true := by simp; omega
          have hH := Lib.hid hh
          clear hh
          go_wp2_with fail
          refine (has_s S.out.s _).mono ?_
          rintro e w9 ⟨rfl, rfl⟩
          rw [hH.out]
          go_wp2_with fail
          refine (has_s S.out.s _).mono ?_
          rintro e w9 ⟨rfl, rfl⟩
          rw [← hhs.out]
          go_wp2_with fail
          refine (count_s S.out.s).mono ?_
          rintro e w9 ⟨rfl, rfl⟩
          rw [← hn.out]
          go_wp2_with fail
          refine (put_s S.out.s _).mono ?_
          rintro e w9 ⟨rfl, Q, F⟩
          rw [putL_yes hKX.out hH.out] at Q
          have S1 := Lib.hid (S.out.put Q F)
          rw [hput.out, hH.out]
          clear Q F
          go_wp2_with fail
          refine (has_s S1.out.s _).mono ?_
          rintro e w9 ⟨rfl, rfl⟩
          rw [hasB_self hKX.out true]
          go_wp2_with fail
          refine (has_s S1.out.s _).mono ?_
          rintro e w9 ⟨rfl, rfl⟩
          rw [hasB_other hko hOX.out true, ← hhs.out]
          go_wp2_with fail
          refine (count_s S1.out.s).mono ?_
          rintro e w10 ⟨rfl, rfl⟩
          rw [show (((X.set K true).count true : Nat) : Int) = (n : Int) + 1 by rw [count_put hKX.out hH.out, ← hn.out]; rfl]
          go_wp2_with fail
          refine (count_s S1.out.s).mono ?_
          rintro e w10 ⟨rfl, rfl⟩
          rw [show (((X.set K true).count true : Nat) : Int) = (n : Int) + 1 by rw [count_put hKX.out hH.out, ← hn.out]; rfl]
          have hk1 := Lib.hid (show hasB (X.set K true) (K : Int) = true from hasB_self hKX.out true)
          go_wp2_with fail
          refine (drop_s S1.out.s _).mono ?_
          rintro e w11 ⟨rfl, Q, F⟩
          rw [dropL_yes hk1.out] at Q
          have S2 := Lib.hid (S1.out.put Q F)
          rw [hk1.out]
          clear Q F
          have hk2 := Lib.hid (show hasB ((X.set K true).set K false) (K : Int) = false from hasB_self (by rw [List.length_set]; exact hKX.out) false)
          go_wp2_with fail
          refine (has_s S2.out.s _).mono ?_
          rintro e w9 ⟨rfl, rfl⟩
          rw [hk2.out]
          go_wp2_with fail
          refine (has_s S2.out.s _).mono ?_
          rintro e w9 ⟨rfl, rfl⟩
          rw [hasB_other hko (by rw [List.length_set]; exact hOX.out) false, hasB_other hko hOX.out true, ← hhs.out]
          go_wp2_with fail
          refine (drop_s S2.out.s _).mono ?_
          rintro e w12 ⟨rfl, Q, F⟩
          rw [dropL_no hk2.out] at Q
          have S3 := Lib.hid (S2.out.put Q F)
          rw [hk2.out]
          clear Q F
          go_wp2
          go_ret
          exact ⟨rfl, S3.out.b⟩
      | true =>
        by_cases hko : K = O
        · subst hko
          have ek : ((K : Int) == (K : Int)) = true := by simp
          have hH := Lib.hid hh
          clear hh
          go_wp2_with fail
          refine (has_s S.out.s _).mono ?_
          rintro e w9 ⟨rfl, rfl⟩
          rw [hH.out]
          go_wp2_with fail
          refine (has_s S.out.s _).mono ?_
          rintro e w9 ⟨rfl, rfl⟩
          rw [← hhs.out]
          go_wp2_with fail
          refine (count_s S.out.s).mono ?_
          rintro e w9 ⟨rfl, rfl⟩
          rw [← hn.out]
          go_wp2_with fail
          refine (put_s S.out.s _).mono ?_
          rintro e w9 ⟨rfl, Q, F⟩
          rw [putL_no hKX.out hH.out] at Q
          have S1 := Lib.hid (S.out.put Q F)
          rw [hput.out, hH.out]
          clear Q F
          go_wp2_with fail
          refine (has_s S1.out.s _).mono ?_
          rintro e w9 ⟨rfl, rfl⟩
          rw [hH.out]
          go_wp2_with fail
          refine (count_s S1.out.s).mono ?_
          rintro e w10 ⟨rfl, rfl⟩
          rw [← hn.out]
          have hk1 := Lib.hid (show hasB (X) (K : Int) = true from hH.out)
          go_wp2_with fail
          refine (drop_s S1.out.s _).mono ?_
          rintro e w11 ⟨rfl, Q, F⟩
          rw [dropL_yes hk1.out] at Q
          have S2 := Lib.hid (S1.out.put Q F)
          rw [hk1.out]
          clear Q F
          have hk2 := Lib.hid (show hasB ((X).set K false) (K : Int) = false from hasB_self hKX.out false)
          go_wp2_with fail
          refine (has_s S2.out.s _).mono ?_
          rintro e w9 ⟨rfl, rfl⟩
          rw [hk2.out]
          go_wp2_with fail
          refine (drop_s S2.out.s _).mono ?_
          rintro e w12 ⟨rfl, Q, F⟩
          rw [dropL_no hk2.out] at Q
          have S3 := Lib.hid (S2.out.put Q F)
          rw [hk2.out]
          clear Q F
          go_wp2
          go_ret
          exact ⟨rfl, S3.out.b⟩
        · have ek : ((K : Int) == (O : Int)) = false := by rw [beq_eq_false_iff_ne]; omega
          have ek2 : ((K : Int) != (O : Int)) = true := by simp; omega
          have hH := Lib.hid hh
          clear hh
          go_wp2_with fail
          refine (has_s S.out.s _).mono ?_
          rintro e w9 ⟨rfl, rfl⟩
          rw [hH.out]
          go_wp2_with fail
          refine (has_s S.out.s _).mono ?_
          rintro e w9 ⟨rfl, rfl⟩
          rw [← hhs.out]
          go_wp2_with fail
          refine (count_s S.out.s).mono ?_
          rintro e w9 ⟨rfl, rfl⟩
          rw [← hn.out]
          go_wp2_with fail
          refine (put_s S.out.s _).mono ?_
          rintro e w9 ⟨rfl, Q, F⟩
          rw [putL_no hKX.out hH.out] at Q
          have S1 := Lib.hid (S.out.put Q F)
          rw [hput.out, hH.out]
          clear Q F
          go_wp2_with fail
          refine (has_s S1.out.s _).mono ?_
          rintro e w9 ⟨rfl, rfl⟩
          rw [hH.out]
          go_wp2_with fail
          refine (has_s S1.out.s _).mono ?_
          rintro e w9 ⟨rfl, rfl⟩
          rw [← hhs.out]
          go_wp2_with fail
          refine (count_s S1.out.s).mono ?_
          rintro e w10 ⟨rfl, rfl⟩
          rw [← hn.out]
          have hk1 := Lib.hid (show hasB (X) (K : Int) = true from hH.out)
          go_wp2_with fail
          refine (drop_s S1.out.s _).mono ?_
          rintro e w11 ⟨rfl, Q, F⟩
          rw [dropL_yes hk1.out] at Q
          have S2 := Lib.hid (S1.out.put Q F)
          rw [hk1.out]
          clear Q F
          have hk2 := Lib.hid (show hasB ((X).set K false) (K : Int) = false from hasB_self hKX.out false)
          go_wp2_with fail
          refine (has_s S2.out.s _).mono ?_
          rintro e w9 ⟨rfl, rfl⟩
          rw [hk2.out]
          go_wp2_with fail
          refine (has_s S2.out.s _).mono ?_
          rintro e w9 ⟨rfl, rfl⟩
          rw [hasB_other hko hOX.out false, ← hhs.out]
          go_wp2_with fail
          refine (drop_s S2.out.s _).mono ?_
          rintro e w12 ⟨rfl, Q, F⟩
          rw [dropL_no hk2.out] at Q
          have S3 := Lib.hid (S2.out.put Q F)
          rw [hk2.out]
          clear Q F
          go_wp2
          go_ret
          exact ⟨rfl, S3.out.b⟩
end Go.Proofs.YtkogkimncoaboaaDoor
