/- The document's example of ledgers. -/
import Derived.Test.YtdgcppglpmlgkaaKeys
namespace Go.Proofs.Ytdgcppglpmlgkaa
open Go.RowKit
set_option linter.unusedVariables false
set_option linter.unusedSimpArgs false
set_option maxRecDepth 100000

section
variable {κ : Type} [DecidableEq κ]
theorem one_get (x : κ) (p : Int × Int) : getL [(x, p)] x = some p := by simp [getL]
theorem one_set (x : κ) (p q : Int × Int) : bset [(x, p)] x q = [(x, q)] := by rw [bset_cons, if_pos rfl]
theorem one_limit0 (x : κ) (n : Int) : bLimit ([] : List (κ × Int × Int)) x n = [(x, (max n 0, 0))] := by rfl
theorem one_take (x : κ) (a b n : Int) : takeB [(x, (a, b))] x n = (decide (0 ≤ n) && decide (n ≤ a - b)) := by unfold takeB; rw [one_get]
theorem one_give (x : κ) (a b n : Int) : giveB [(x, (a, b))] x n = (decide (0 ≤ n) && decide (n ≤ b)) := by unfold giveB; rw [one_get]
theorem one_used (x : κ) (a b : Int) : usedV [(x, (a, b))] x = b := by unfold usedV; rw [one_get]
theorem one_lim (x : κ) (a b : Int) : limV [(x, (a, b))] x = a := by unfold limV; rw [one_get]
theorem one_left (x : κ) (a b : Int) : leftV [(x, (a, b))] x = max (a - b) 0 := by unfold leftV; rw [one_get]
theorem one_bTake (x : κ) (a b n : Int) (h : takeB [(x, (a, b))] x n = true) : bTake [(x, (a, b))] x n = [(x, (a, b + n))] := by unfold bTake; rw [h, one_lim, one_used, one_set]; rfl
theorem one_bTake0 {L : List (κ × Int × Int)} {x : κ} {n : Int} (h : takeB L x n = false) : bTake L x n = L := by unfold bTake; rw [h]; rfl
theorem one_bGive (x : κ) (a b n : Int) (h : giveB [(x, (a, b))] x n = true) : bGive [(x, (a, b))] x n = [(x, (a, b - n))] := by unfold bGive; rw [h, one_lim, one_used, one_set]; rfl
theorem one_bGive0 {L : List (κ × Int × Int)} {x : κ} {n : Int} (h : giveB L x n = false) : bGive L x n = L := by unfold bGive; rw [h]; rfl
theorem one_take0 {x y : κ} (h : x ≠ y) (p : Int × Int) (n : Int) : takeB [(x, p)] y n = false := by unfold takeB; simp [getL, h]
theorem one_limit1 (x : κ) (a b n : Int) : bLimit [(x, (a, b))] x n = [(x, (max n 0, b))] := by unfold bLimit; rw [one_used, one_set]
end

def kx : ByteArray := ⟨#[120]⟩
def ky : ByteArray := ⟨#[121]⟩
set_option maxHeartbeats 4000000 in
theorem alive06_c (w : World) : Calls Try.prog 12 #[] w fun r w' => r = .returned (.bool true) ∧ Below w.heap.size w w' := by
  go_enter Try.func12, Try.ntmps12
  have C1 := (Cel.new w #[.slice none 0 0] 26 0 _ rfl).alloc (.cells #[.slice none 0 0] 43)
  have C2 : Cel ((w.alloc (.cells #[.slice none 0 0] 26)).alloc (.cells #[.slice none 0 0] 43)) (w.heap.size + 1) 0 (.slice none 0 0) := by
    have := Cel.new (w.alloc (.cells #[.slice none 0 0] 26)) #[.slice none 0 0] 43 0 _ rfl
    simpa using this
  have HB := Below.alloc (Below.alloc (Below.refl w.heap.size w) (Nat.le_refl _) (.cells #[.slice none 0 0] 26)) (by simp) (.cells #[.slice none 0 0] 43)
  have hsz : w.heap.size + 2 ≤ ((w.alloc (.cells #[.slice none 0 0] 26)).alloc (.cells #[.slice none 0 0] 43)).heap.size := by simp
  have K1 := Lib.hid (Bk_s.new _ _ C1)
  have K2 := Lib.hid (Bk_i.new _ _ C2)
  replace HB := Lib.hid HB; replace hsz := Lib.hid hsz
  clear C1 C2
  go_wp2_with fail
  generalize (w.alloc (.cells #[.slice none 0 0] 26)).alloc (.cells #[.slice none 0 0] 43) = W at *
  refine (limit_s (k := kx) K1.out (by decide) 3 (by decide)).mono ?_
  rintro r w1 ⟨rfl, v1, B1, O1, F1⟩
  rw [one_limit0] at B1
  have O1' : v1.ownBlock = none ∨ ∃ b, v1.ownBlock = some b ∧ W.heap.size ≤ b := O1
  have M2 := Lib.hid (K2.out.fr F1 (fun hh => hh.elim (fun e => by omega) (fun e => by cases e)) (fun b hb => by cases hb))
  have HB1 := Lib.hid (HB.out.trans (F1.below HB.out.size (fun b hb hh => hh.elim (fun e => by omega) (fun e => by cases e))))
  have hs1 := Lib.hid (Nat.le_trans hsz.out F1.size)
  have Z1 : Hid (∀ b, v1.ownBlock = some b → W.heap.size ≤ b ∧ b < w1.heap.size) := Lib.hid fun b hb => by
    refine ⟨?_, (B1.own.lt b hb).2⟩
    rcases O1' with e | ⟨b', e, hl⟩
    · rw [e] at hb; cases hb
    · rw [e] at hb; injection hb with hb; omega
  replace B1 := Lib.hid B1
  clear O1 O1' F1 HB K1 K2
  go_wp2_with fail
  refine (limit_i M2.out (by decide) 7 1 (by decide)).mono ?_
  rintro r w2 ⟨rfl, v2, B2, O2, F2⟩
  rw [one_limit0] at B2
  have O2' : v2.ownBlock = none ∨ ∃ b, v2.ownBlock = some b ∧ w1.heap.size ≤ b := O2
  have Z2 : Hid (∀ b, v2.ownBlock = some b → w1.heap.size ≤ b) := Lib.hid fun b hb => by
    rcases O2' with e | ⟨b', e, hl⟩
    · rw [e] at hb; cases hb
    · rw [e] at hb; injection hb with hb; omega
  have N1 := Lib.hid (B1.out.fr F2 (fun hh => hh.elim (fun e => by omega) (fun e => by cases e)) (fun b hb hh => hh.elim (fun e => by have := (Z1.out b hb).1; have := hsz.out; omega) (fun e => by cases e)))
  have HB2 := Lib.hid (HB1.out.trans (F2.below HB1.out.size (fun b hb hh => hh.elim (fun e => by omega) (fun e => by cases e))))
  have hs2 := Lib.hid (Nat.le_trans hs1.out F2.size)
  replace B2 := Lib.hid B2
  clear O2 O2' F2 HB1 B1 M2
  have sep : Hid (∀ b, ¬ (bkS_s w.heap.size v1 b ∧ (b = w.heap.size + 1 ∨ v2.ownBlock = some b))) := Lib.hid fun b hh => by
    obtain ⟨h1, h2⟩ := hh
    rcases h1 with h1 | h1
    · rcases h2 with h2 | h2
      · omega
      · have := Z2.out b h2; have := hs1.out; omega
    · have z := Z1.out b h1
      rcases h2 with h2 | h2
      · have := hsz.out; omega
      · have := Z2.out b h2; omega
  have low : Hid (∀ b, b < w.heap.size → ¬ bkS_s w.heap.size v1 b) := Lib.hid fun b hb hh => by
    rcases hh with h1 | h1
    · omega
    · have := (Z1.out b h1).1; have := hsz.out; omega
  have lowc : Hid (∀ b, b < w.heap.size → ¬ bkS_i (w.heap.size + 1) v2 b) := Lib.hid fun b hb hh => by
    rcases hh with h1 | h1
    · omega
    · have := Z2.out b h1; have := hs1.out; omega
  clear Z1 Z2
  rw [show ((max (3 : Int) 0, (0 : Int)) : Int × Int) = (3, 0) from rfl] at N1
  rw [show ((max (1 : Int) 0, (0 : Int)) : Int × Int) = (1, 0) from rfl] at B2
  go_wp2_with fail
  refine (take_s (k := kx) N1.out (by decide) 2).mono ?_
  rintro r w3 ⟨rfl, B, F⟩
  rw [show takeB [(kx, ((3 : Int), (0 : Int)))] kx 2 = true from by rw [one_take]; rfl] at *
  rw [one_bTake kx _ _ _ (by rw [one_take]; rfl)] at B
  replace B2 := Lib.hid (B2.out.fr F (fun hh => sep.out _ ⟨hh, .inl rfl⟩) (fun b hb hh => sep.out _ ⟨hh, .inr hb⟩))
  have HB3 := Lib.hid (HB2.out.trans (F.below HB2.out.size low.out))
  have N2 := Lib.hid B
  clear B F HB2
  rw [show ((0 : Int) + 2) = 2 from rfl] at N2
  go_wp2_with fail
  refine (take_s (k := kx) N2.out (by decide) 2).mono ?_
  rintro r w4 ⟨rfl, B, F⟩
  rw [show takeB [(kx, ((3 : Int), (2 : Int)))] kx 2 = false from by rw [one_take]; rfl] at *
  rw [one_bTake0 (by rw [one_take]; rfl)] at B
  replace B2 := Lib.hid (B2.out.fr F (fun hh => sep.out _ ⟨hh, .inl rfl⟩) (fun b hb hh => sep.out _ ⟨hh, .inr hb⟩))
  have HB4 := Lib.hid (HB3.out.trans (F.below HB3.out.size low.out))
  have N3 := Lib.hid B
  clear B F HB3
  go_wp2_with fail
  refine (used_s (k := kx) N3.out (by decide)).mono ?_
  rintro r w5 ⟨rfl, rfl⟩
  rw [one_used]
  go_wp2_with fail
  refine (left_s (k := kx) N3.out (by decide)).mono ?_
  rintro r w5 ⟨rfl, F⟩
  rw [one_left]
  replace B2 := Lib.hid (B2.out.below F)
  have HB5 := Lib.hid (HB4.out.trans (F.mono HB4.out.size))
  have N4 := Lib.hid (N3.out.below F)
  clear F HB4 N3
  go_wp2_with fail
  refine (give_s (k := kx) N4.out (by decide) 1).mono ?_
  rintro r w6 ⟨rfl, B, F⟩
  rw [show giveB [(kx, ((3 : Int), (2 : Int)))] kx 1 = true from by rw [one_give]; rfl] at *
  rw [one_bGive kx _ _ _ (by rw [one_give]; rfl)] at B
  replace B2 := Lib.hid (B2.out.fr F (fun hh => sep.out _ ⟨hh, .inl rfl⟩) (fun b hb hh => sep.out _ ⟨hh, .inr hb⟩))
  have HB6 := Lib.hid (HB5.out.trans (F.below HB5.out.size low.out))
  have N5 := Lib.hid B
  clear B F HB5
  rw [show ((2 : Int) - 1) = 1 from rfl] at N5
  go_wp2_with fail
  refine (give_s (k := kx) N5.out (by decide) 2).mono ?_
  rintro r w7 ⟨rfl, B, F⟩
  rw [show giveB [(kx, ((3 : Int), (1 : Int)))] kx 2 = false from by rw [one_give]; rfl] at *
  rw [one_bGive0 (by rw [one_give]; rfl)] at B
  replace B2 := Lib.hid (B2.out.fr F (fun hh => sep.out _ ⟨hh, .inl rfl⟩) (fun b hb hh => sep.out _ ⟨hh, .inr hb⟩))
  have HB7 := Lib.hid (HB6.out.trans (F.below HB6.out.size low.out))
  have N6 := Lib.hid B
  clear B F HB6
  go_wp2_with fail
  refine (take_s (k := ky) N6.out (by decide) 0).mono ?_
  rintro r w8 ⟨rfl, B, F⟩
  rw [show takeB [(kx, ((3 : Int), (1 : Int)))] ky 0 = false from one_take0 (by decide) _ _] at *
  rw [one_bTake0 (one_take0 (by decide) _ _)] at B
  replace B2 := Lib.hid (B2.out.fr F (fun hh => sep.out _ ⟨hh, .inl rfl⟩) (fun b hb hh => sep.out _ ⟨hh, .inr hb⟩))
  have HB8 := Lib.hid (HB7.out.trans (F.below HB7.out.size low.out))
  have N7 := Lib.hid B
  clear B F HB7
  go_wp2_with fail
  refine (take_i B2.out (by decide) 7 1).mono ?_
  rintro r w9 ⟨rfl, B, F⟩
  rw [show takeB [((7 : Int), ((1 : Int), (0 : Int)))] 7 1 = true from by rw [one_take]; rfl] at *
  rw [one_bTake (7 : Int) _ _ _ (by rw [one_take]; rfl)] at B
  have N8 := Lib.hid (N7.out.fr F (fun hh => sep.out _ ⟨.inl rfl, hh.imp id id⟩) (fun b hb hh => sep.out _ ⟨.inr hb, hh.imp id id⟩))
  have HB9 := Lib.hid (HB8.out.trans (F.below HB8.out.size lowc.out))
  have B3 := Lib.hid B
  clear B F HB8 N7 B2
  go_wp2_with fail
  refine (left_i B3.out (by decide) 7).mono ?_
  rintro r w10 ⟨rfl, F⟩
  rw [one_left]
  have HB10 := Lib.hid (HB9.out.trans (F.mono HB9.out.size))
  have N9 := Lib.hid (N8.out.below F)
  clear F HB9 N8 B3
  go_wp2_with fail
  refine (keys_s N9.out (by decide)).mono ?_
  rintro r w11 ⟨v', S, rfl, O, hS, hP, F⟩
  have hl := hP.length_eq
  obtain ⟨A', c', rfl, _⟩ := O.slice
  have hl1 : S.length = 1 := hl
  rw [hl1]
  have HB11 := Lib.hid (HB10.out.trans (F.mono HB10.out.size))
  clear F HB10 N9 O hS hP hl hl1
  go_wp2
  go_ret
  exact ⟨rfl, HB11.out⟩
end Go.Proofs.Ytdgcppglpmlgkaa
