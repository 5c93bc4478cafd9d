/- PlanTells. No condition. -/
import Derived.Test.YtnlbcgonegeofaaPlL
namespace Go.Proofs.Ytnlbcgonegeofaa
open Go.RowKit
set_option linter.unusedVariables false
set_option linter.unusedSimpArgs false
set_option maxRecDepth 100000

theorem from_C {w : World} {c n C : Nat} {A : Option Addr} {xs : List Sl} (g : Gd xs) (hr : SlA w A xs) (hn : n = xs.length) (hC : C = cyc xs) :
    Calls Try.prog 15 #[.slice A n c, .int .i64 n] w fun e w' => e = .returned (.int .u64 C) ∧ w = w' := by
  subst hn; subst hC; exact from_c g hr (Nat.le_refl _)
theorem rat_C {w : World} {c n t : Nat} {A : Option Addr} {xs : List Sl} (g : Gd xs) (hr : SlA w A xs) (hn : n = xs.length) (ht : t < U64) {o : Int} {b : Bool} (ho : atO xs t = o) (hb : atE xs t = b) :
    Calls Try.prog 14 #[.slice A n c, .int .u64 t] w fun e w' => e = .returned (.tuple #[.int .i64 o, .bool b]) ∧ Below w.heap.size w w' := by
  subst hn; subst ho; subst hb
  refine (rat_c g hr ht).mono fun e w' h => ?_
  obtain ⟨h1, m, rfl⟩ := h
  exact ⟨h1, belN (Below.refl _ _) m⟩
theorem rnext_C {w : World} {c n t : Nat} {A : Option Addr} {xs : List Sl} (g : Gd xs) (hr : SlA w A xs) (hn : n = xs.length) (who : Int) (ht : t < U64) {f e : Nat} {b : Bool} (hx : nxV xs who t = (f, e, b)) :
    Calls Try.prog 17 #[.slice A n c, .int .i64 who, .int .u64 t] w fun r w' => r = .returned (.tuple #[.int .u64 f, .int .u64 e, .bool b]) ∧ Below w.heap.size w w' := by
  subst hn
  have := rnext_c (c := c) g hr who ht
  rw [hx] at this
  exact this
theorem rkth_C {w : World} {c n t : Nat} {A : Option Addr} {xs : List Sl} (g : Gd xs) (hr : SlA w A xs) (hn : n = xs.length) (who : Int) (ht : t < U64) {k : Int} (hk : k ≤ 9000000000000000000) {e : Nat} {b : Bool} (hx : kthV xs who t k = (e, b)) :
    Calls Try.prog 19 #[.slice A n c, .int .i64 who, .int .u64 t, .int .i64 k] w fun r w' => r = .returned (.tuple #[.int .u64 e, .bool b]) ∧ Below w.heap.size w w' := by
  subst hn
  have := rkth_c (c := c) g hr who ht hk
  rw [hx] at this
  exact this
theorem right_C {w : World} {c n : Nat} {A : Option Addr} {xs : List Sl} (hr : SlA w A xs) (hl : xs.length ≤ 4611686018427387904) (hn : n = xs.length) {tn : Int} {b : Bool} (hb : okR xs tn = b) :
    Calls Try.prog 11 #[.slice A n c, .int .i64 tn] w fun e w' => e = .returned (.bool b) ∧ w = w' := by
  subst hn; subst hb; exact right_c hr hl tn
theorem wf_u64 {a : Int} (h : (Lit.int .u64 a).wf = true) : ∃ n : Nat, a = (n : Int) ∧ n < U64 := by
  have h2 : 0 ≤ a ∧ a < 18446744073709551616 := by
    simp [Lit.wf, IntKind.min, IntKind.max, IntKind.bits, IntKind.signed] at h
    omega
  exact ⟨a.toNat, by omega, by unfold U64; omega⟩
theorem wf_i64 {a : Int} (h : (Lit.int .i64 a).wf = true) : -9223372036854775808 ≤ a ∧ a < 9223372036854775808 := by
  simp [Lit.wf, IntKind.min, IntKind.max, IntKind.bits, IntKind.signed] at h
  omega

set_option maxHeartbeats 8000000 in
theorem tells9_walk (A : Option Addr) (c : Nat) (xs : List Sl) (tn who ti k : Int) (W : World) (r : RowAt Sl.cells 2 W A xs) (z : xs.length * 16 ≤ 140737488351232) (wt : (Lit.int .u64 ti).wf = true) (wk : (Lit.int .i64 k).wf = true) :
    Calls Try.prog 3 #[.slice A xs.length c, .int .i64 tn, .int .i64 who, .int .u64 ti, .int .i64 k] W fun e w' => e = .returned (.bool true) ∧ Below W.heap.size W w' := by
  obtain ⟨t, rfl, ht⟩ := wf_u64 wt
  have hk := wf_i64 wk
  have key1 : Hid (∀ X, Below W.heap.size W X → SlA X A xs) := Lib.hid fun X hX => r.below hX
  have HB := Lib.hid (Below.refl W.heap.size W)
  have hl : Hid (xs.length ≤ 4611686018427387904) := Lib.hid (by omega)
  obtain ⟨n, hn⟩ : ∃ n, n = xs.length := ⟨_, rfl⟩
  rw [← hn]
  clear r
  by_cases hg : 70 < n ∨ 300 < k
  · by_cases hg1 : 70 < n
    · obtain ⟨d1, d1n⟩ : decide ((70 : Int) < (n : Int)) = true ∧ decide (70 < n) = true := ⟨decide_eq_true (by omega), decide_eq_true hg1⟩
      clear hg hg1 hn z wt wk ht
      go_enter Try.func3, Try.ntmps3
      go_wp2_with (first | (go_at_call 9; with_reducible refine (alive09_c _).mono ?_; rintro e w4 ⟨rfl, F⟩; have HB2 := Lib.hid (belT HB.out F); replace HB := HB2; clear HB2; clear F) | fail)
      go_ret
      exact ⟨rfl, HB.out⟩
    · obtain ⟨d1, d1n⟩ : decide ((70 : Int) < (n : Int)) = false ∧ decide (70 < n) = false := ⟨decide_eq_false (by omega), decide_eq_false hg1⟩
      have d2 : decide (300 < k) = true := decide_eq_true (hg.resolve_left hg1)
      clear hg hg1 hn z wt wk ht
      go_enter Try.func3, Try.ntmps3
      go_wp2_with (first | (go_at_call 9; with_reducible refine (alive09_c _).mono ?_; rintro e w4 ⟨rfl, F⟩; have HB2 := Lib.hid (belT HB.out F); replace HB := HB2; clear HB2; clear F) | fail)
      go_ret
      exact ⟨rfl, HB.out⟩
  obtain ⟨d1, d1n⟩ : decide ((70 : Int) < (n : Int)) = false ∧ decide (70 < n) = false := ⟨decide_eq_false (by omega), decide_eq_false (by omega)⟩
  have d2 : decide (300 < k) = false := decide_eq_false (by omega)
  have hk9 : Hid (k ≤ 9000000000000000000) := Lib.hid (by omega)
  replace hk := Lib.hid hk
  replace hn := Lib.hid hn
  replace ht := Lib.hid ht
  by_cases hok : Ok xs tn
  · have K := Lib.hid hok
    have G := Lib.hid hok.gd
    have hR := Lib.hid (okR_yes hok)
    obtain ⟨C, hC⟩ : ∃ C, C = cyc xs := ⟨_, rfl⟩
    obtain ⟨o, ho⟩ : ∃ o, atO xs t = o := ⟨_, rfl⟩
    obtain ⟨b, hb⟩ : ∃ b, atE xs t = b := ⟨_, rfl⟩
    obtain ⟨⟨f1, f2, f3⟩, hf⟩ : ∃ x, nxV xs who t = x := ⟨_, rfl⟩
    obtain ⟨⟨k1, k2⟩, hkt⟩ : ∃ x, kthV xs who t k = x := ⟨_, rfl⟩
    replace hC := Lib.hid hC; replace ho := Lib.hid ho; replace hb := Lib.hid hb; replace hf := Lib.hid hf; replace hkt := Lib.hid hkt
    have x1 : (b != b) = false := by simp
    have x2 : (f3 != f3) = false := by simp
    have x3 : (k2 == k2) = true := by simp
    clear hok hg z wt wk
    go_enter Try.func3, Try.ntmps3
    go_upto_region 6 with (first | (go_at_call 9; with_reducible refine (alive09_c _).mono ?_; rintro e w4 ⟨rfl, F⟩; have HB2 := Lib.hid (belT HB.out F); replace HB := HB2; clear HB2; clear F) | (go_at_call 10; with_reducible refine (of_ok (key1.out _ HB.out) hn.out K.out hC.out).mono ?_; rintro e w4 ⟨A1, c1, rfl, P1, F1⟩; replace P1 := Lib.hid P1; replace F1 := Lib.hid F1) | fail)
    have PV := Lib.hid (PVar.new (n := n) (c := c1) (C := C) P1.out)
    have HB2 := Lib.hid (belA (belT HB.out F1.out) (.cells #[.slice A1 n c1, .int .u64 C] 27))
    replace HB := HB2
    clear F1 P1 HB2
    generalize w4.alloc (.cells #[.slice A1 n c1, .int .u64 C] 27) = W0 at *
    generalize w4.heap.size = B at *
    have z0 := PV.out.c0
    have z1 := PV.out.c1
    go_wp2_with (first | (go_at_call 11; with_reducible refine (right_C (key1.out _ HB.out) hl.out hn.out hR.out).mono ?_; rintro e w4 ⟨rfl, rfl⟩) | (go_at_call 13; with_reducible refine (at_C G.out hn.out hC.out PV.out.pl rfl ht.out ho.out hb.out).mono ?_; rintro e w4 ⟨rfl, F⟩; have HB2 := Lib.hid (belT HB.out F); replace HB := HB2; clear HB2; have PV2 := Lib.hid (PV.out.bel F); replace PV := PV2; clear PV2; have z0 := PV.out.c0; have z1 := PV.out.c1; clear F) | (go_at_call 14; with_reducible refine (rat_C G.out (key1.out _ HB.out) hn.out ht.out ho.out hb.out).mono ?_; rintro e w4 ⟨rfl, F⟩; have HB2 := Lib.hid (belT HB.out F); replace HB := HB2; clear HB2; have PV2 := Lib.hid (PV.out.bel F); replace PV := PV2; clear PV2; have z0 := PV.out.c0; have z1 := PV.out.c1; clear F) | (go_at_call 12; with_reducible refine (cyc_C _).mono ?_; rintro e w4 ⟨rfl, F⟩; have HB2 := Lib.hid (belT HB.out F); replace HB := HB2; clear HB2; have PV2 := Lib.hid (PV.out.bel F); replace PV := PV2; clear PV2; have z0 := PV.out.c0; have z1 := PV.out.c1; clear F) | (go_at_call 15; with_reducible refine (from_C G.out (key1.out _ HB.out) hn.out hC.out).mono ?_; rintro e w4 ⟨rfl, rfl⟩) | (go_at_call 16; with_reducible refine (next_C G.out hn.out hC.out PV.out.pl who rfl ht.out hf.out).mono ?_; rintro e w4 ⟨rfl, F⟩; have HB2 := Lib.hid (belT HB.out F); replace HB := HB2; clear HB2; have PV2 := Lib.hid (PV.out.bel F); replace PV := PV2; clear PV2; have z0 := PV.out.c0; have z1 := PV.out.c1; clear F) | (go_at_call 17; with_reducible refine (rnext_C G.out (key1.out _ HB.out) hn.out who ht.out hf.out).mono ?_; rintro e w4 ⟨rfl, F⟩; have HB2 := Lib.hid (belT HB.out F); replace HB := HB2; clear HB2; have PV2 := Lib.hid (PV.out.bel F); replace PV := PV2; clear PV2; have z0 := PV.out.c0; have z1 := PV.out.c1; clear F) | (go_at_call 18; with_reducible refine (kth_C G.out hn.out hC.out PV.out.pl who rfl ht.out hk.out hkt.out).mono ?_; rintro e w4 ⟨rfl, F⟩; have HB2 := Lib.hid (belT HB.out F); replace HB := HB2; clear HB2; have PV2 := Lib.hid (PV.out.bel F); replace PV := PV2; clear PV2; have z0 := PV.out.c0; have z1 := PV.out.c1; clear F) | (go_at_call 19; with_reducible refine (rkth_C G.out (key1.out _ HB.out) hn.out who ht.out hk9.out hkt.out).mono ?_; rintro e w4 ⟨rfl, F⟩; have HB2 := Lib.hid (belT HB.out F); replace HB := HB2; clear HB2; have PV2 := Lib.hid (PV.out.bel F); replace PV := PV2; clear PV2; have z0 := PV.out.c0; have z1 := PV.out.c1; clear F) | fail)
    go_ret
    exact ⟨rfl, HB.out⟩
  · have K := Lib.hid hok
    have hR := Lib.hid (okR_no hok)
    clear hok hg z wt wk
    go_enter Try.func3, Try.ntmps3
    go_upto_region 6 with (first | (go_at_call 9; with_reducible refine (alive09_c _).mono ?_; rintro e w4 ⟨rfl, F⟩; have HB2 := Lib.hid (belT HB.out F); replace HB := HB2; clear HB2; clear F) | (go_at_call 10; with_reducible refine (of_no (key1.out _ HB.out) hn.out K.out).mono ?_; rintro e w4 ⟨rfl, F⟩; have HB2 := Lib.hid (belT HB.out F); replace HB := HB2; clear HB2; clear F) | fail)
    have z0 := (Cel.new w4 #[.slice none 0 0, .int .u64 0] 27 0 (.slice none 0 0) rfl).1
    have z1 := (Cel.new w4 #[.slice none 0 0, .int .u64 0] 27 1 (.int .u64 0) rfl).1
    have HB2 := Lib.hid (belA HB.out (.cells #[.slice none 0 0, .int .u64 0] 27))
    replace HB := HB2
    clear HB2
    generalize w4.alloc (.cells #[.slice none 0 0, .int .u64 0] 27) = W0 at *
    generalize w4.heap.size = B at *
    go_wp2_with (first | (go_at_call 11; with_reducible refine (right_C (key1.out _ HB.out) hl.out hn.out hR.out).mono ?_; rintro e w4 ⟨rfl, rfl⟩) | (go_at_call 12; with_reducible refine (cyc_C _).mono ?_; rintro e w4 ⟨rfl, F⟩; have HB2 := Lib.hid (belT HB.out F); replace HB := HB2; clear HB2; clear F) | fail)
    go_ret
    exact ⟨rfl, HB.out⟩
end Go.Proofs.Ytnlbcgonegeofaa
