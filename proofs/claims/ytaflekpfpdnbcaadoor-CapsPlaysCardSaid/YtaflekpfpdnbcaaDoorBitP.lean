/- Rows of words as sets of bits, in plain Lean. -/
import Derived.WalkKit
import Derived.Lib.TrailingZeros
import Derived.Laws.Bits64b
namespace Go.Proofs.YtaflekpfpdnbcaaDoor
open Go
set_option linter.unusedVariables false
set_option linter.unusedSimpArgs false
set_option linter.unusedSectionVars false

/-- Bit k of a row of words. -/
def bitAt (ws : List Nat) (k : Nat) : Bool := (ws.getD (k / 64) 0).testBit (k % 64)
structure BW (ws : List Nat) (X : List Bool) : Prop where
  len : ws.length = (X.length + 63) / 64
  lt : ∀ x ∈ ws, x < 18446744073709551616
  bit : ∀ k, bitAt ws k = X.getD k false

theorem BW.new (n : Nat) : BW (List.replicate ((n + 63) / 64) 0) (List.replicate n false) :=
  ⟨by simp, fun x hx => by rw [List.eq_of_mem_replicate hx]; decide, fun k => by
    unfold bitAt
    rw [show (List.replicate ((n + 63) / 64) 0).getD (k / 64) 0 = 0 by rw [List.getD_eq_getElem?_getD, List.getElem?_replicate]; split <;> rfl, Nat.zero_testBit]
    rw [List.getD_eq_getElem?_getD, List.getElem?_replicate]; split <;> rfl⟩
theorem BW.wlt {ws : List Nat} {X : List Bool} (h : BW ws X) {k : Nat} (hk : k < X.length) : k / 64 < ws.length := by rw [h.len]; omega
theorem BW.at {ws : List Nat} {X : List Bool} (h : BW ws X) {k : Nat} (hk : k < X.length) : (ws[k / 64]'(h.wlt hk)).testBit (k % 64) = X[k] := by
  have := h.bit k
  unfold bitAt at this
  rw [List.getD_eq_getElem?_getD, List.getElem?_eq_getElem (h.wlt hk), List.getD_eq_getElem?_getD, List.getElem?_eq_getElem hk] at this
  exact this
theorem BW.setWord {ws : List Nat} {X : List Bool} (h : BW ws X) {k : Nat} (hk : k < X.length) (y : Nat) (b : Bool) (hy : y < 18446744073709551616)
    (hb : ∀ j, j < 64 → y.testBit j = if j = k % 64 then b else (ws[k / 64]'(h.wlt hk)).testBit j) : BW (ws.set (k / 64) y) (X.set k b) := by
  refine ⟨by rw [List.length_set, List.length_set]; exact h.len, fun x hx => ?_, fun j => ?_⟩
  · rcases List.mem_or_eq_of_mem_set hx with hx | hx
    · exact h.lt x hx
    · rw [hx]; exact hy
  · have h0 := h.bit j
    unfold bitAt at h0 ⊢
    by_cases hj : j / 64 = k / 64
    · have e1 : (ws.set (k / 64) y).getD (j / 64) 0 = y := by
        rw [hj, List.getD_eq_getElem?_getD, List.getElem?_set_self (h.wlt hk)]; rfl
      rw [e1, hb _ (Nat.mod_lt _ (by decide))]
      by_cases hjk : j = k
      · subst hjk
        rw [if_pos rfl, List.getD_eq_getElem?_getD, List.getElem?_set_self hk]; rfl
      · rw [if_neg (by omega), List.getD_eq_getElem?_getD, List.getElem?_set_ne (by omega), ← List.getD_eq_getElem?_getD, ← h0]
        rw [hj, List.getD_eq_getElem?_getD, List.getElem?_eq_getElem (h.wlt hk)]; rfl
    · rw [List.getD_eq_getElem?_getD, List.getElem?_set_ne (by omega), ← List.getD_eq_getElem?_getD, h0]
      rw [List.getD_eq_getElem?_getD, List.getD_eq_getElem?_getD, List.getElem?_set_ne (by intro e; exact hj (by rw [e]))]

theorem count_set {X : List Bool} {k : Nat} (hk : k < X.length) (b : Bool) : (X.set k b).count true + (if X[k] then 1 else 0) = X.count true + (if b then 1 else 0) := by
  induction X generalizing k with
  | nil => simp at hk
  | cons a t ih =>
    cases k with
    | zero => cases a <;> cases b <;> simp
    | succ k =>
      have := ih (k := k) (by simpa using hk)
      cases a <;> simp at this ⊢ <;> omega
theorem count_le (X : List Bool) : X.count true ≤ X.length := List.count_le_length

/-- The least place from k on at which X holds b. -/
def nextB (X : List Bool) (b : Bool) (k : Nat) : Option Nat := if h : k < X.length then if X[k] = b then some k else nextB X b (k + 1) else none
termination_by X.length - k
theorem nextB_some {X : List Bool} {b : Bool} {k j : Nat} (hj : j < X.length) (hkj : k ≤ j) (hb : X[j] = b) (hno : ∀ i (h : i < X.length), k ≤ i → i < j → X[i] ≠ b) : nextB X b k = some j := by
  unfold nextB
  by_cases h : k = j
  · subst h; rw [dif_pos hj, if_pos hb]
  · rw [dif_pos (by omega), if_neg (hno k (by omega) (Nat.le_refl _) (by omega))]
    exact nextB_some hj (by omega) hb (fun i hi h1 h2 => hno i hi (by omega) h2)
termination_by j - k
theorem nextB_none {X : List Bool} {b : Bool} {k : Nat} (hno : ∀ i (h : i < X.length), k ≤ i → X[i] ≠ b) : nextB X b k = none := by
  unfold nextB
  by_cases h : k < X.length
  · rw [dif_pos h, if_neg (hno k h (Nat.le_refl _))]
    exact nextB_none (fun i hi h1 => hno i hi (by omega))
  · rw [dif_neg h]
termination_by X.length - k
theorem nextB_of {X : List Bool} {b : Bool} {k j : Nat} (h : nextB X b k = some j) : ∃ hj : j < X.length, k ≤ j ∧ X[j] = b ∧ ∀ i (hi : i < X.length), k ≤ i → i < j → X[i] ≠ b := by
  unfold nextB at h
  by_cases hk : k < X.length
  · rw [dif_pos hk] at h
    by_cases hb : X[k] = b
    · rw [if_pos hb] at h
      injection h with h
      subst h
      exact ⟨hk, Nat.le_refl _, hb, fun i hi h1 h2 => by omega⟩
    · rw [if_neg hb] at h
      obtain ⟨h1, h2, h3, h4⟩ := nextB_of h
      refine ⟨h1, by omega, h3, fun i hi h5 h6 => ?_⟩
      by_cases hik : i = k
      · subst hik; exact hb
      · exact h4 i hi (by omega) h6
  · rw [dif_neg hk] at h; cases h
termination_by X.length - k
theorem nextB_no {X : List Bool} {b : Bool} {k : Nat} (h : nextB X b k = none) : ∀ i (hi : i < X.length), k ≤ i → X[i] ≠ b := by
  intro i hi hk
  unfold nextB at h
  rw [dif_pos (by omega)] at h
  by_cases hb : X[k] = b
  · rw [if_pos hb] at h; cases h
  · rw [if_neg hb] at h
    by_cases hik : i = k
    · subst hik; exact hb
    · exact nextB_no h i hi (by omega)
termination_by X.length - k

/-- What Next and Gap answer. -/
def nextV (X : List Bool) (b : Bool) (k : Int) : Int := match nextB X b k.toNat with | some j => (j : Int) | none => 0
def nextO (X : List Bool) (b : Bool) (k : Int) : Bool := (nextB X b k.toNat).isSome
/-- Is a number in? -/
def hasB (X : List Bool) (k : Int) : Bool := decide (0 ≤ k) && X.getD k.toNat false
def putB (X : List Bool) (k : Int) : Bool := decide (0 ≤ k) && decide (k < X.length) && !X.getD k.toNat false
def putL (X : List Bool) (k : Int) : List Bool := if putB X k then X.set k.toNat true else X
def dropL (X : List Bool) (k : Int) : List Bool := if hasB X k then X.set k.toNat false else X
end Go.Proofs.YtaflekpfpdnbcaaDoor
