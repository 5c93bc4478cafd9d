/- LedgerParts. -/
import Derived.Test.YtdgcppglpmlgkaaAl6
import Derived.Test.YtdgcppglpmlgkaaBits
import Derived.Test.YtdgcppglpmlgkaaRow
namespace Go.Proofs.Ytdgcppglpmlgkaa
open Go.RowKit
set_option linter.unusedVariables false
set_option linter.unusedSimpArgs false
set_option maxRecDepth 100000

theorem maskB (j : Nat) (m : Int) (hm : (bv m).toNat = 2 ^ j - 1) (hj : j < 64) (a : Int) : 0 ≤ bits .and .i64 a m ∧ bits .and .i64 a m < (2 ^ j : Nat) := by
  rw [and_mask j m hm hj a]
  have h0 : ((2 ^ j : Nat) : Int) ≠ 0 := by have := Nat.two_pow_pos j; omega
  have h1 := Int.emod_nonneg a h0
  have h2 := Int.emod_lt_of_pos a (show (0 : Int) < ((2 ^ j : Nat) : Int) by have := Nat.two_pow_pos j; omega)
  exact ⟨h1, h2⟩

/-- Two books of numbers, apart. -/
structure Two (w0 w : World) (p q : Nat) (v1 v2 : Value) (L1 L2 : List (Int × Int × Int)) : Prop where
  b1 : Bk_i w p v1 L1
  b2 : Bk_i w q v2 L2
  sep : ∀ b, ¬ (bkS_i p v1 b ∧ bkS_i q v2 b)
  low1 : ∀ b, b < w0.heap.size → ¬ bkS_i p v1 b
  low2 : ∀ b, b < w0.heap.size → ¬ bkS_i q v2 b
  bel : Below w0.heap.size w0 w
theorem Two.step1 {w0 w w' : World} {p q : Nat} {v1 v2 : Value} {L1 L2 L : List (Int × Int × Int)} (h : Two w0 w p q v1 v2 L1 L2) (B : Bk_i w' p v1 L) (F : FrB (bkS_i p v1) w w') : Two w0 w' p q v1 v2 L L2 :=
  ⟨B, h.b2.fr F (fun hh => h.sep _ ⟨hh, .inl rfl⟩) (fun b hb hh => h.sep _ ⟨hh, .inr hb⟩), h.sep, h.low1, h.low2, h.bel.trans (F.below h.bel.size h.low1)⟩
theorem Two.step2 {w0 w w' : World} {p q : Nat} {v1 v2 : Value} {L1 L2 L : List (Int × Int × Int)} (h : Two w0 w p q v1 v2 L1 L2) (B : Bk_i w' q v2 L) (F : FrB (bkS_i q v2) w w') : Two w0 w' p q v1 v2 L1 L :=
  ⟨h.b1.fr F (fun hh => h.sep _ ⟨.inl rfl, hh⟩) (fun b hb hh => h.sep _ ⟨.inr hb, hh⟩), B, h.sep, h.low1, h.low2, h.bel.trans (F.below h.bel.size h.low2)⟩
theorem Two.below {w0 w w' : World} {p q : Nat} {v1 v2 : Value} {L1 L2 : List (Int × Int × Int)} (h : Two w0 w p q v1 v2 L1 L2) (F : Below w.heap.size w w') : Two w0 w' p q v1 v2 L1 L2 :=
  ⟨h.b1.below F, h.b2.below F, h.sep, h.low1, h.low2, h.bel.trans (F.mono h.bel.size)⟩

set_option maxHeartbeats 8000000 in
theorem parts_walk (a0 : Int) (A : Option Addr) (c : Nat) (xs : List Int) (w : World) (hr : RowAt (fun x : Int => [.int .i64 x]) 1 w A xs) (hz : xs.length * 8 ≤ 140737488351232) :
    Calls Try.prog 6 #[.int .i64 a0, .slice A xs.length c] w fun r w' => r = .returned (.bool true) ∧ Below w.heap.size w w' := by
  have m0 := maskB 12 4095 (by decide) (by decide) a0
  by_cases hbig : 40 < xs.length
  · have hb1 : decide ((40 : Int) < (xs.length : Int)) = true := by simp; omega
    go_enter Try.func6, Try.ntmps6
    go_wp2_with fail
    refine (alive06_c w).mono ?_
    rintro e w1 ⟨rfl, hB1⟩
    have HB1 := Lib.hid hB1
    clear hB1
    go_wp2
    go_ret
    exact ⟨rfl, HB1.out⟩
  · have hb1 : decide ((40 : Int) < (xs.length : Int)) = false := by simp; omega
    have hbig := Lib.hid hbig
    have HR := Lib.hid hr
    clear hr hz
    go_enter Try.func6, Try.ntmps6
    go_wp2_with fail
    refine (alive06_c w).mono ?_
    rintro e w1 ⟨rfl, B1⟩
    have C1 := (Cel.new w1 #[.slice none 0 0] 43 0 _ rfl).alloc (.cells #[.slice none 0 0] 43)
    have C2 : Cel ((w1.alloc (.cells #[.slice none 0 0] 43)).alloc (.cells #[.slice none 0 0] 43)) (w1.heap.size + 1) 0 (.slice none 0 0) := by
      have := Cel.new (w1.alloc (.cells #[.slice none 0 0] 43)) #[.slice none 0 0] 43 0 _ rfl
      simpa using this
    have HB := Below.alloc (Below.alloc B1 B1.size (.cells #[.slice none 0 0] 43)) (by have := B1.size; simp; omega) (.cells #[.slice none 0 0] 43)
    have hsz : w1.heap.size + 2 ≤ ((w1.alloc (.cells #[.slice none 0 0] 43)).alloc (.cells #[.slice none 0 0] 43)).heap.size := by simp
    have hs0 := Lib.hid B1.size
    have K1 := Lib.hid (Bk_i.new _ _ C1)
    have K2 := Lib.hid (Bk_i.new _ _ C2)
    replace HB := Lib.hid HB; replace hsz := Lib.hid hsz
    clear C1 C2 B1
    go_wp2_with fail
    generalize (w1.alloc (.cells #[.slice none 0 0] 43)).alloc (.cells #[.slice none 0 0] 43) = W at *
    generalize bits .and .i64 a0 4095 = l at *
    have hl0 : 0 ≤ l ∧ l ≤ 4095 := by omega
    clear m0
    refine (limit_i K1.out (by simp) 1 l (by omega)).mono ?_
    rintro r w2 ⟨rfl, v1, B2, O1, F1⟩
    rw [one_limit0, show max l 0 = l by omega] at B2
    have O1' : v1.ownBlock = none ∨ ∃ b, v1.ownBlock = some b ∧ W.heap.size ≤ b := O1
    have M2 := Lib.hid (K2.out.fr F1 (fun hh => hh.elim (fun e => by omega) (fun e => by cases e)) (fun b hb => by cases hb))
    have HB1 := Lib.hid (HB.out.trans (F1.below HB.out.size (fun b hb hh => hh.elim (fun e => by have := hs0.out; omega) (fun e => by cases e))))
    have hs1 := Lib.hid (Nat.le_trans hsz.out F1.size)
    have Z1 : Hid (∀ b, v1.ownBlock = some b → W.heap.size ≤ b ∧ b < w2.heap.size) := Lib.hid fun b hb => by
      refine ⟨?_, (B2.own.lt b hb).2⟩
      rcases O1' with e | ⟨b', e, hl⟩
      · rw [e] at hb; cases hb
      · rw [e] at hb; injection hb with hb; omega
    replace B2 := Lib.hid B2
    clear O1 O1' F1 HB K1 K2
    go_wp2_with fail
    refine (limit_i M2.out (by simp) 1 l (by omega)).mono ?_
    rintro r w3 ⟨rfl, v2, B3, O2, F2⟩
    rw [one_limit0, show max l 0 = l by omega] at B3
    have O2' : v2.ownBlock = none ∨ ∃ b, v2.ownBlock = some b ∧ w2.heap.size ≤ b := O2
    have Z2 : Hid (∀ b, v2.ownBlock = some b → w2.heap.size ≤ b) := Lib.hid fun b hb => by
      rcases O2' with e | ⟨b', e, hl⟩
      · rw [e] at hb; cases hb
      · rw [e] at hb; injection hb with hb; omega
    have T : Two w w3 w1.heap.size (w1.heap.size + 1) v1 v2 [(1, (l, 0))] [(1, (l, 0))] := by
      refine ⟨B2.out.fr F2 (fun hh => hh.elim (fun e => by omega) (fun e => by cases e)) (fun b hb hh => hh.elim (fun e => by have := (Z1.out b hb).1; have := hsz.out; omega) (fun e => by cases e)), B3, ?_, ?_, ?_,
        HB1.out.trans (F2.below HB1.out.size (fun b hb hh => hh.elim (fun e => by have := hs0.out; omega) (fun e => by cases e)))⟩
      · intro b hh
        obtain ⟨h1, h2⟩ := hh
        rcases h1 with h1 | h1
        · rcases h2 with h2 | h2
          · omega
          · have := Z2.out b h2; have := hs1.out; omega
        · have z := Z1.out b h1
          rcases h2 with h2 | h2
          · have := hsz.out; omega
          · have := Z2.out b h2; omega
      · intro b hb hh
        rcases hh with h1 | h1
        · have := hs0.out; omega
        · have := (Z1.out b h1).1; have := hsz.out; have := hs0.out; omega
      · intro b hb hh
        rcases hh with h1 | h1
        · have := hs0.out; omega
        · have := Z2.out b h1; have := hs1.out; have := hs0.out; omega
    replace T := Lib.hid T
    clear O2 O2' Z1 Z2 F2 HB1 B2 B3 M2 hs1 hsz hs0
    go_wp2_with fail
    go_loopw [7, 8, 25] (fun ss aa ii wr => ∃ (k : Nat) (s : Int) (all : Bool), ii = .int .i64 k ∧ ss = .int .i64 s ∧ aa = .bool all ∧ Hid (0 ≤ s ∧ s ≤ l) ∧ Hid (k ≤ xs.length) ∧ Hid (Two w wr w1.heap.size (w1.heap.size + 1) v1 v2 [(1, (l, s))] [(1, (l, 0))])) (fun _ _ ii _ => xs.length - (intOf ii).toNat)
    case atStart => exact ⟨0, 0, true, rfl, rfl, rfl, Lib.hid (by omega), Lib.hid (Nat.zero_le _), T⟩
    case round =>
      clear T
      obtain ⟨k, s, all, rfl, rfl, rfl, hs, hk, T⟩ := hrel
      by_cases hlt : k < xs.length
      · have hk40 : k < 41 := by have := hbig.out; omega
        obtain ⟨b, off, rfl, hbl, hc⟩ := HR.out k hlt
        have hz := (T.out.bel.cell (p := ⟨b, off + k * 1 + 0, none⟩) hbl).trans (hc 0 _ rfl)
        rw [Nat.mul_one, Nat.add_zero] at hz
        have mm := maskB 8 255 (by decide) (by decide) xs[k]
        generalize xs[k] = z at *
        clear hc hbl
        go_wp2_with fail
        generalize bits .and .i64 z 255 = n at *
        have hn : 0 ≤ n ∧ n ≤ 255 := by omega
        clear mm hz
        refine (take_i T.out.b1 (by simp) 1 n).mono ?_
        rintro r w4 ⟨rfl, B, F⟩
        have hso := hs.out
        have hw : wrap64 (s + n) = s + n := by unfold wrap64; omega
        by_cases hsn : s + n ≤ l
        · have t4 : takeB [((1 : Int), (l, s))] 1 n = true := by rw [one_take]; simp; omega
          rw [t4]
          rw [one_bTake _ _ _ _ t4] at B
          have T4 := Lib.hid (T.out.step1 B F)
          have d4 : decide (s + n ≤ l) = true := decide_eq_true hsn
          clear B F T t4
          replace hsn := Lib.hid hsn
          cases all
          · go_wp2
            exact ⟨⟨k + 1, s + n, false, by go_num, rfl, rfl, Lib.hid (by have := hsn.out; omega), Lib.hid (by omega), T4⟩, by simp [intOf]; omega⟩
          · go_wp2
            exact ⟨⟨k + 1, s + n, true, by go_num, rfl, rfl, Lib.hid (by have := hsn.out; omega), Lib.hid (by omega), T4⟩, by simp [intOf]; omega⟩
        · have t4 : takeB [((1 : Int), (l, s))] 1 n = false := by rw [one_take]; simp; omega
          rw [t4]
          rw [one_bTake0 t4] at B
          have T4 := Lib.hid (T.out.step1 B F)
          have d4 : decide (s + n ≤ l) = false := decide_eq_false hsn
          clear B F T t4
          replace hsn := Lib.hid hsn
          cases all
          · go_wp2
            exact ⟨⟨k + 1, s, false, by go_num, rfl, rfl, Lib.hid (by omega), Lib.hid (by omega), T4⟩, by simp [intOf]; omega⟩
          · go_wp2
            exact ⟨⟨k + 1, s, false, by go_num, rfl, rfl, Lib.hid (by omega), Lib.hid (by omega), T4⟩, by simp [intOf]; omega⟩
      · have hso := hs.out
        have hw : wrap64 (l - s) = l - s := by unfold wrap64; omega
        have hmx : max (l - s) 0 = l - s := by omega
        go_wp2_with fail
        refine (take_i T.out.b2 (by simp) 1 s).mono ?_
        rintro r w4 ⟨rfl, B, F⟩
        have t4 : takeB [((1 : Int), (l, (0 : Int)))] 1 s = true := by rw [one_take]; simp; omega
        rw [t4]
        rw [one_bTake _ _ _ _ t4, show (0 : Int) + s = s by omega] at B
        have T4 := Lib.hid (T.out.step2 B F)
        clear B F T t4
        go_wp2_with fail
        refine (used_i T4.out.b1 (by simp) 1).mono ?_
        rintro r w5 ⟨rfl, rfl⟩
        rw [one_used]
        go_wp2_with fail
        refine (used_i T4.out.b2 (by simp) 1).mono ?_
        rintro r w5 ⟨rfl, rfl⟩
        rw [one_used]
        go_wp2_with fail
        refine (left_i T4.out.b1 (by simp) 1).mono ?_
        rintro r w5 ⟨rfl, F⟩
        rw [one_left, hmx]
        have T5 := Lib.hid (T4.out.below F)
        clear F T4
        go_wp2_with fail
        refine (left_i T5.out.b1 (by simp) 1).mono ?_
        rintro r w6 ⟨rfl, F⟩
        rw [one_left, hmx]
        have T6 := Lib.hid (T5.out.below F)
        clear F T5
        go_wp2_with fail
        refine (left_i T6.out.b2 (by simp) 1).mono ?_
        rintro r w7 ⟨rfl, F⟩
        rw [one_left, hmx]
        have T7 := Lib.hid (T6.out.below F)
        clear F T6
        cases all
        · go_wp2
          go_ret
          exact ⟨rfl, T7.out.bel⟩
        · have t8 : giveB [((1 : Int), (l, s))] 1 s = true := by rw [one_give]; simp; omega
          go_wp2_with fail
          refine (give_i T7.out.b1 (by simp) 1 s).mono ?_
          rintro r w8 ⟨rfl, B, F⟩
          rw [t8]
          rw [one_bGive _ _ _ _ t8, show s - s = 0 by omega] at B
          have T8 := Lib.hid (T7.out.step1 B F)
          clear B F T7
          go_wp2_with fail
          refine (give_i T8.out.b2 (by simp) 1 s).mono ?_
          rintro r w9 ⟨rfl, B, F⟩
          rw [t8]
          rw [one_bGive _ _ _ _ t8, show s - s = 0 by omega] at B
          have T9 := Lib.hid (T8.out.step2 B F)
          clear B F T8
          go_wp2_with fail
          refine (used_i T9.out.b1 (by simp) 1).mono ?_
          rintro r w10 ⟨rfl, rfl⟩
          rw [one_used]
          go_wp2_with fail
          refine (left_i T9.out.b1 (by simp) 1).mono ?_
          rintro r w10 ⟨rfl, F⟩
          rw [one_left, show max (l - 0) 0 = l by omega]
          have T10 := Lib.hid (T9.out.below F)
          clear F T9
          go_wp2
          go_ret
          exact ⟨by simp, T10.out.bel⟩
end Go.Proofs.Ytdgcppglpmlgkaa
