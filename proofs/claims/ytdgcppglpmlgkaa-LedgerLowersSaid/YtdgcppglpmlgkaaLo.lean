/- LedgerLowers. -/
import Derived.Test.YtdgcppglpmlgkaaAl6
import Derived.Test.YtdgcppglpmlgkaaBits
namespace Go.Proofs.Ytdgcppglpmlgkaa
open Go.RowKit
set_option linter.unusedVariables false
set_option linter.unusedSimpArgs false
set_option maxRecDepth 100000

theorem mask10 (a : Int) : 0 ≤ bits .and .i64 a 1023 ∧ bits .and .i64 a 1023 < 1024 := by
  have := and_mask 10 1023 (by decide) (by decide) a
  rw [this]
  have h1 := Int.emod_nonneg a (show (((2 ^ 10 : Nat)) : Int) ≠ 0 by decide)
  have h2 := Int.emod_lt_of_pos a (show (0 : Int) < ((2 ^ 10 : Nat) : Int) by decide)
  have e : ((2 ^ 10 : Nat) : Int) = 1024 := by decide
  rw [e] at h1 h2 ⊢
  omega
def kk : ByteArray := ⟨#[107]⟩

set_option maxHeartbeats 8000000 in
theorem lowers_walk (a0 a1 a2 : Int) (w : World) :
    Calls Try.prog 5 #[.int .i64 a0, .int .i64 a1, .int .i64 a2] w fun r w' => r = .returned (.bool true) ∧ Below w.heap.size w w' := by
  have m0 := mask10 a0
  have m1 := mask10 a1
  have m2 := mask10 a2
  go_enter Try.func5, Try.ntmps5
  go_wp2_with fail
  refine (alive06_c w).mono ?_
  rintro r w1 ⟨rfl, B1⟩
  replace B1 := Lib.hid B1
  have C1 := Cel.new w1 #[.slice none 0 0] 26 0 _ rfl
  have HB := Lib.hid (Below.alloc B1.out B1.out.size (.cells #[.slice none 0 0] 26))
  have hs := Lib.hid (show w.heap.size ≤ w1.heap.size from B1.out.size)
  have K := Lib.hid (Bk_s.new _ _ C1)
  have hg := Lib.hid (show w1.heap.size < (w1.alloc (.cells #[.slice none 0 0] 26)).heap.size by simp)
  clear C1 B1
  go_wp2_with fail
  generalize w1.alloc (.cells #[.slice none 0 0] 26) = W at *
  generalize bits .and .i64 a0 1023 = l at *
  generalize bits .and .i64 a1 1023 = lo at *
  generalize bits .and .i64 a2 1023 = ba at *
  refine (limit_s (k := kk) K.out (by simp) l (by omega)).mono ?_
  rintro r w2 ⟨rfl, v2, B2, O2, F2⟩
  rw [one_limit0, show max l 0 = l by omega] at B2
  have low : Hid (∀ b, b < w.heap.size → ¬ bkS_s w1.heap.size v2 b) := Lib.hid fun b hb hh => by
    rcases hh with h1 | h1
    · have := hs.out; omega
    · rcases (show v2.ownBlock = none ∨ ∃ b, v2.ownBlock = some b ∧ W.heap.size ≤ b from O2) with e | ⟨b', e, hl⟩
      · rw [e] at h1; cases h1
      · rw [e] at h1; injection h1 with h1; have := hs.out; have := hg.out; omega
  have HB2 := Lib.hid (HB.out.trans (F2.below HB.out.size (fun b hb hh => hh.elim (fun e => by have := hs.out; omega) (fun e => by cases e))))
  have N2 := Lib.hid B2
  clear B2 O2 F2 HB K
  go_wp2_with fail
  refine (take_s (k := kk) N2.out (by simp) l).mono ?_
  rintro r w3 ⟨rfl, B, F⟩
  have t3 : takeB [(kk, (l, (0 : Int)))] kk l = true := by rw [one_take]; first | (simp; done) | (simp; omega)
  rw [t3]
  rw [one_bTake _ _ _ _ t3, show (0 : Int) + l = l by omega] at B
  have HB3 := Lib.hid (HB2.out.trans (F.below HB2.out.size low.out))
  have N3 := Lib.hid B
  clear B F HB2 N2 t3
  by_cases hl0 : 0 < l
  · go_wp2_with fail
    refine (take_s (k := kk) N3.out (by simp) 1).mono ?_
    rintro r w4 ⟨rfl, B, F⟩
    have t4 : takeB [(kk, (l, l))] kk 1 = false := by rw [one_take]; first | (simp; done) | (simp; omega)
    rw [t4]
    rw [one_bTake0 t4] at B
    have HB4 := Lib.hid (HB3.out.trans (F.below HB3.out.size low.out))
    have N4 := Lib.hid B
    clear B F HB3 N3 t4
    go_wp2_with fail
    refine (limit_s (k := kk) N4.out (by simp) lo (by omega)).mono ?_
    rintro r w5 ⟨rfl, v5, B5, O5, F5⟩
    rw [one_limit1, show max lo 0 = lo by omega] at B5
    have HB5 := Lib.hid (HB4.out.trans (F5.below HB4.out.size low.out))
    have low5 : Hid (∀ b, b < w.heap.size → ¬ bkS_s w1.heap.size v5 b) := Lib.hid fun b hb hh => by
      rcases hh with h1 | h1
      · have := hs.out; omega
      · rcases O5 with e | ⟨b', e, hl⟩
        · exact low.out b hb (.inr (by rw [← e]; exact h1))
        · rw [e] at h1; injection h1 with h1; have := HB4.out.size; omega
    have N5 := Lib.hid B5
    clear B5 O5 F5 HB4 N4 low
    go_wp2_with fail
    refine (give_s (k := kk) N5.out (by simp) ba).mono ?_
    rintro r w6 ⟨rfl, B, F⟩
    have HB6 := Lib.hid (HB5.out.trans (F.below HB5.out.size low5.out))
    by_cases hba : ba ≤ l
    · have t6 : giveB [(kk, (lo, l))] kk ba = true := by rw [one_give]; first | (simp; done) | (simp; omega)
      rw [t6]
      rw [one_bGive _ _ _ _ t6] at B
      have hw6 : wrap64 (l - ba) = l - ba := by unfold wrap64; omega
      obtain ⟨lf, hlf⟩ : ∃ lf, lf = l - ba := ⟨_, rfl⟩
      rw [← hlf] at B hw6
      have hlf2 : 0 ≤ lf ∧ lf ≤ 1023 := by omega
      have d6 : decide (ba ≤ l) = true := decide_eq_true hba
      have hq : l - ba = lf := hlf.symm
      replace hlf := Lib.hid hlf
      have N6 := Lib.hid B
      clear B F HB5 N5 t6
      go_wp2_with fail
      refine (used_s (k := kk) N6.out (by simp)).mono ?_
      rintro r w7 ⟨rfl, rfl⟩
      rw [one_used]
      go_wp2_with fail
      refine (left_s (k := kk) N6.out (by simp)).mono ?_
      rintro r w7 ⟨rfl, F⟩
      rw [one_left]
      have HB7 := Lib.hid (HB6.out.trans (F.mono HB6.out.size))
      have N7 := Lib.hid (N6.out.below F)
      have hw7 : wrap64 (lo - lf) = lo - lf := by unfold wrap64; omega
      clear F HB6 N6
      by_cases hll : lf < lo
      · have hm7 : max (lo - lf) 0 = lo - lf := by omega
        have d7 : decide (lf < lo) = true := decide_eq_true hll
        have hx7 : 0 ≤ lo - lf := by omega
        rw [hm7]
        go_wp2_with fail
        refine (take_s (k := kk) N7.out (by simp) 1).mono ?_
        rintro r w8 ⟨rfl, B, F⟩
        have t8 : takeB [(kk, (lo, lf))] kk 1 = true := by rw [one_take]; first | (simp; done) | (simp; omega)
        rw [t8]
        have HB8 := Lib.hid (HB7.out.trans (F.below HB7.out.size low5.out))
        clear B F HB7 N7 t8
        go_wp2
        go_ret
        exact ⟨by first | rfl | (simp; done) | (simp; omega) | (simp [*]; done), HB8.out⟩
      · have hm7 : max (lo - lf) 0 = 0 := by omega
        have d7 : decide (lf < lo) = false := decide_eq_false hll
        rcases (show lo = lf ∨ lo < lf by omega) with hee | hee
        · have hx7 : lo - lf = 0 := by omega
          rw [hx7] at hw7
          rw [hm7]
          go_wp2_with fail
          all_goals try (exfalso; omega)
          refine (take_s (k := kk) N7.out (by simp) 1).mono ?_
          rintro r w8 ⟨rfl, B, F⟩
          have t8 : takeB [(kk, (lo, lf))] kk 1 = false := by rw [one_take]; first | (simp; done) | (simp; omega)
          rw [t8]
          have HB8 := Lib.hid (HB7.out.trans (F.below HB7.out.size low5.out))
          clear B F HB7 N7 t8
          go_wp2
          go_ret
          exact ⟨by first | rfl | (simp; done) | (simp; omega) | (simp [*]; done), HB8.out⟩
        · have hx7 : lo - lf < 0 := by omega
          rw [hm7]
          go_wp2_with fail
          all_goals try (exfalso; omega)
          refine (take_s (k := kk) N7.out (by simp) 1).mono ?_
          rintro r w8 ⟨rfl, B, F⟩
          have t8 : takeB [(kk, (lo, lf))] kk 1 = false := by rw [one_take]; first | (simp; done) | (simp; omega)
          rw [t8]
          have HB8 := Lib.hid (HB7.out.trans (F.below HB7.out.size low5.out))
          clear B F HB7 N7 t8
          go_wp2
          go_ret
          exact ⟨by first | rfl | (simp; done) | (simp; omega) | (simp [*]; done), HB8.out⟩
    · have t6 : giveB [(kk, (lo, l))] kk ba = false := by rw [one_give]; first | (simp; done) | (simp; omega)
      rw [t6]
      rw [one_bGive0 t6] at B
      obtain ⟨lf, hlf⟩ : ∃ lf, lf = l := ⟨_, rfl⟩
      have hlf2 : 0 ≤ lf ∧ lf ≤ 1023 := by omega
      have d6 : decide (ba ≤ l) = false := decide_eq_false hba
      rw [← hlf] at B
      replace hlf := Lib.hid hlf
      have hq : True := trivial
      have N6 := Lib.hid B
      clear B F HB5 N5 t6
      go_wp2_with fail
      refine (used_s (k := kk) N6.out (by simp)).mono ?_
      rintro r w7 ⟨rfl, rfl⟩
      rw [one_used]
      go_wp2_with fail
      refine (left_s (k := kk) N6.out (by simp)).mono ?_
      rintro r w7 ⟨rfl, F⟩
      rw [one_left]
      have HB7 := Lib.hid (HB6.out.trans (F.mono HB6.out.size))
      have N7 := Lib.hid (N6.out.below F)
      have hw7 : wrap64 (lo - lf) = lo - lf := by unfold wrap64; omega
      clear F HB6 N6
      by_cases hll : lf < lo
      · have hm7 : max (lo - lf) 0 = lo - lf := by omega
        have d7 : decide (lf < lo) = true := decide_eq_true hll
        have hx7 : 0 ≤ lo - lf := by omega
        rw [hm7]
        go_wp2_with fail
        refine (take_s (k := kk) N7.out (by simp) 1).mono ?_
        rintro r w8 ⟨rfl, B, F⟩
        have t8 : takeB [(kk, (lo, lf))] kk 1 = true := by rw [one_take]; first | (simp; done) | (simp; omega)
        rw [t8]
        have HB8 := Lib.hid (HB7.out.trans (F.below HB7.out.size low5.out))
        clear B F HB7 N7 t8
        go_wp2
        go_ret
        exact ⟨by first | rfl | (simp; done) | (simp; omega) | (simp [*]; done), HB8.out⟩
      · have hm7 : max (lo - lf) 0 = 0 := by omega
        have d7 : decide (lf < lo) = false := decide_eq_false hll
        rcases (show lo = lf ∨ lo < lf by omega) with hee | hee
        · have hx7 : lo - lf = 0 := by omega
          rw [hx7] at hw7
          rw [hm7]
          go_wp2_with fail
          all_goals try (exfalso; omega)
          refine (take_s (k := kk) N7.out (by simp) 1).mono ?_
          rintro r w8 ⟨rfl, B, F⟩
          have t8 : takeB [(kk, (lo, lf))] kk 1 = false := by rw [one_take]; first | (simp; done) | (simp; omega)
          rw [t8]
          have HB8 := Lib.hid (HB7.out.trans (F.below HB7.out.size low5.out))
          clear B F HB7 N7 t8
          go_wp2
          go_ret
          exact ⟨by first | rfl | (simp; done) | (simp; omega) | (simp [*]; done), HB8.out⟩
        · have hx7 : lo - lf < 0 := by omega
          rw [hm7]
          go_wp2_with fail
          all_goals try (exfalso; omega)
          refine (take_s (k := kk) N7.out (by simp) 1).mono ?_
          rintro r w8 ⟨rfl, B, F⟩
          have t8 : takeB [(kk, (lo, lf))] kk 1 = false := by rw [one_take]; first | (simp; done) | (simp; omega)
          rw [t8]
          have HB8 := Lib.hid (HB7.out.trans (F.below HB7.out.size low5.out))
          clear B F HB7 N7 t8
          go_wp2
          go_ret
          exact ⟨by first | rfl | (simp; done) | (simp; omega) | (simp [*]; done), HB8.out⟩

  · have HB4 := HB3
    have N4 := N3
    clear HB3 N3
    go_wp2_with fail
    refine (limit_s (k := kk) N4.out (by simp) lo (by omega)).mono ?_
    rintro r w5 ⟨rfl, v5, B5, O5, F5⟩
    rw [one_limit1, show max lo 0 = lo by omega] at B5
    have HB5 := Lib.hid (HB4.out.trans (F5.below HB4.out.size low.out))
    have low5 : Hid (∀ b, b < w.heap.size → ¬ bkS_s w1.heap.size v5 b) := Lib.hid fun b hb hh => by
      rcases hh with h1 | h1
      · have := hs.out; omega
      · rcases O5 with e | ⟨b', e, hl⟩
        · exact low.out b hb (.inr (by rw [← e]; exact h1))
        · rw [e] at h1; injection h1 with h1; have := HB4.out.size; omega
    have N5 := Lib.hid B5
    clear B5 O5 F5 HB4 N4 low
    go_wp2_with fail
    refine (give_s (k := kk) N5.out (by simp) ba).mono ?_
    rintro r w6 ⟨rfl, B, F⟩
    have HB6 := Lib.hid (HB5.out.trans (F.below HB5.out.size low5.out))
    by_cases hba : ba ≤ l
    · have t6 : giveB [(kk, (lo, l))] kk ba = true := by rw [one_give]; first | (simp; done) | (simp; omega)
      rw [t6]
      rw [one_bGive _ _ _ _ t6] at B
      have hw6 : wrap64 (l - ba) = l - ba := by unfold wrap64; omega
      obtain ⟨lf, hlf⟩ : ∃ lf, lf = l - ba := ⟨_, rfl⟩
      rw [← hlf] at B hw6
      have hlf2 : 0 ≤ lf ∧ lf ≤ 1023 := by omega
      have d6 : decide (ba ≤ l) = true := decide_eq_true hba
      have hq : l - ba = lf := hlf.symm
      replace hlf := Lib.hid hlf
      have N6 := Lib.hid B
      clear B F HB5 N5 t6
      go_wp2_with fail
      refine (used_s (k := kk) N6.out (by simp)).mono ?_
      rintro r w7 ⟨rfl, rfl⟩
      rw [one_used]
      go_wp2_with fail
      refine (left_s (k := kk) N6.out (by simp)).mono ?_
      rintro r w7 ⟨rfl, F⟩
      rw [one_left]
      have HB7 := Lib.hid (HB6.out.trans (F.mono HB6.out.size))
      have N7 := Lib.hid (N6.out.below F)
      have hw7 : wrap64 (lo - lf) = lo - lf := by unfold wrap64; omega
      clear F HB6 N6
      by_cases hll : lf < lo
      · have hm7 : max (lo - lf) 0 = lo - lf := by omega
        have d7 : decide (lf < lo) = true := decide_eq_true hll
        have hx7 : 0 ≤ lo - lf := by omega
        rw [hm7]
        go_wp2_with fail
        refine (take_s (k := kk) N7.out (by simp) 1).mono ?_
        rintro r w8 ⟨rfl, B, F⟩
        have t8 : takeB [(kk, (lo, lf))] kk 1 = true := by rw [one_take]; first | (simp; done) | (simp; omega)
        rw [t8]
        have HB8 := Lib.hid (HB7.out.trans (F.below HB7.out.size low5.out))
        clear B F HB7 N7 t8
        go_wp2
        go_ret
        exact ⟨by first | rfl | (simp; done) | (simp; omega) | (simp [*]; done), HB8.out⟩
      · have hm7 : max (lo - lf) 0 = 0 := by omega
        have d7 : decide (lf < lo) = false := decide_eq_false hll
        rcases (show lo = lf ∨ lo < lf by omega) with hee | hee
        · have hx7 : lo - lf = 0 := by omega
          rw [hx7] at hw7
          rw [hm7]
          go_wp2_with fail
          all_goals try (exfalso; omega)
          refine (take_s (k := kk) N7.out (by simp) 1).mono ?_
          rintro r w8 ⟨rfl, B, F⟩
          have t8 : takeB [(kk, (lo, lf))] kk 1 = false := by rw [one_take]; first | (simp; done) | (simp; omega)
          rw [t8]
          have HB8 := Lib.hid (HB7.out.trans (F.below HB7.out.size low5.out))
          clear B F HB7 N7 t8
          go_wp2
          go_ret
          exact ⟨by first | rfl | (simp; done) | (simp; omega) | (simp [*]; done), HB8.out⟩
        · have hx7 : lo - lf < 0 := by omega
          exfalso; omega
    · have t6 : giveB [(kk, (lo, l))] kk ba = false := by rw [one_give]; first | (simp; done) | (simp; omega)
      rw [t6]
      rw [one_bGive0 t6] at B
      obtain ⟨lf, hlf⟩ : ∃ lf, lf = l := ⟨_, rfl⟩
      have hlf2 : 0 ≤ lf ∧ lf ≤ 1023 := by omega
      have d6 : decide (ba ≤ l) = false := decide_eq_false hba
      rw [← hlf] at B
      replace hlf := Lib.hid hlf
      have hq : True := trivial
      have N6 := Lib.hid B
      clear B F HB5 N5 t6
      go_wp2_with fail
      refine (used_s (k := kk) N6.out (by simp)).mono ?_
      rintro r w7 ⟨rfl, rfl⟩
      rw [one_used]
      go_wp2_with fail
      refine (left_s (k := kk) N6.out (by simp)).mono ?_
      rintro r w7 ⟨rfl, F⟩
      rw [one_left]
      have HB7 := Lib.hid (HB6.out.trans (F.mono HB6.out.size))
      have N7 := Lib.hid (N6.out.below F)
      have hw7 : wrap64 (lo - lf) = lo - lf := by unfold wrap64; omega
      clear F HB6 N6
      by_cases hll : lf < lo
      · have hm7 : max (lo - lf) 0 = lo - lf := by omega
        have d7 : decide (lf < lo) = true := decide_eq_true hll
        have hx7 : 0 ≤ lo - lf := by omega
        rw [hm7]
        go_wp2_with fail
        refine (take_s (k := kk) N7.out (by simp) 1).mono ?_
        rintro r w8 ⟨rfl, B, F⟩
        have t8 : takeB [(kk, (lo, lf))] kk 1 = true := by rw [one_take]; first | (simp; done) | (simp; omega)
        rw [t8]
        have HB8 := Lib.hid (HB7.out.trans (F.below HB7.out.size low5.out))
        clear B F HB7 N7 t8
        go_wp2
        go_ret
        exact ⟨by first | rfl | (simp; done) | (simp; omega) | (simp [*]; done), HB8.out⟩
      · have hm7 : max (lo - lf) 0 = 0 := by omega
        have d7 : decide (lf < lo) = false := decide_eq_false hll
        rcases (show lo = lf ∨ lo < lf by omega) with hee | hee
        · have hx7 : lo - lf = 0 := by omega
          rw [hx7] at hw7
          rw [hm7]
          go_wp2_with fail
          all_goals try (exfalso; omega)
          refine (take_s (k := kk) N7.out (by simp) 1).mono ?_
          rintro r w8 ⟨rfl, B, F⟩
          have t8 : takeB [(kk, (lo, lf))] kk 1 = false := by rw [one_take]; first | (simp; done) | (simp; omega)
          rw [t8]
          have HB8 := Lib.hid (HB7.out.trans (F.below HB7.out.size low5.out))
          clear B F HB7 N7 t8
          go_wp2
          go_ret
          exact ⟨by first | rfl | (simp; done) | (simp; omega) | (simp [*]; done), HB8.out⟩
        · have hx7 : lo - lf < 0 := by omega
          exfalso; omega

end Go.Proofs.Ytdgcppglpmlgkaa
