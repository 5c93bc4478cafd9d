/- Books of limits, and sorting by insertion, in plain Lean. -/
import Derived.WalkKit
import Derived.Lib.Bytes
namespace Go.Proofs.Ytdgcppglpmlgkaa
open Go
set_option linter.unusedVariables false
set_option linter.unusedSimpArgs false
set_option linter.unusedSectionVars false

section
variable {κ : Type} [DecidableEq κ]

def fidx : List (κ × Int × Int) → κ → Option Nat
  | [], _ => none
  | x :: t, k => if x.1 = k then some 0 else (fidx t k).map (· + 1)
def getL : List (κ × Int × Int) → κ → Option (Int × Int)
  | [], _ => none
  | x :: t, k => if x.1 = k then some x.2 else getL t k
theorem fidx_some : ∀ {L : List (κ × Int × Int)} {k : κ} {i : Nat}, fidx L k = some i → ∃ h : i < L.length, L[i].1 = k ∧ getL L k = some L[i].2
  | [], k, i, h => by simp [fidx] at h
  | x :: t, k, i, h => by
    unfold fidx at h
    by_cases hx : x.1 = k
    · rw [if_pos hx] at h
      injection h with h
      subst h
      exact ⟨by simp, hx, by simp [getL, hx]⟩
    · rw [if_neg hx] at h
      cases ht : fidx t k with
      | none => rw [ht] at h; simp at h
      | some j =>
        rw [ht] at h
        simp at h
        subst h
        obtain ⟨h1, h2, h3⟩ := fidx_some ht
        exact ⟨by simp; omega, by simpa using h2, by simpa [getL, hx] using h3⟩
theorem fidx_none : ∀ {L : List (κ × Int × Int)} {k : κ}, fidx L k = none → getL L k = none ∧ ∀ x ∈ L, x.1 ≠ k
  | [], k, h => by simp [getL]
  | x :: t, k, h => by
    unfold fidx at h
    by_cases hx : x.1 = k
    · rw [if_pos hx] at h; cases h
    · rw [if_neg hx] at h
      cases ht : fidx t k with
      | none =>
        obtain ⟨h1, h2⟩ := fidx_none ht
        refine ⟨by simp [getL, hx, h1], ?_⟩
        intro y hy
        rcases List.mem_cons.1 hy with h | h
        · subst h; exact hx
        · exact h2 y h
      | some j => rw [ht] at h; simp at h
theorem fidx_hit : ∀ {L : List (κ × Int × Int)} {k : κ} {i : Nat} (hi : i < L.length), L[i].1 = k → (∀ j (h : j < L.length), j < i → L[j].1 ≠ k) → fidx L k = some i
  | [], k, i, hi, h, hb => absurd hi (by simp)
  | x :: t, k, 0, hi, h, hb => by simp [fidx]; exact h
  | x :: t, k, i + 1, hi, h, hb => by
    have hx : x.1 ≠ k := hb 0 (by simp) (by omega)
    have := fidx_hit (L := t) (i := i) (by simpa using hi) (by simpa using h) (fun j hj hji => by have := hb (j + 1) (by simpa using hj) (by omega); simpa using this)
    simp [fidx, hx, this]
theorem fidx_miss {L : List (κ × Int × Int)} {k : κ} (hb : ∀ j (h : j < L.length), L[j].1 ≠ k) : fidx L k = none := by
  cases h : fidx L k with
  | none => rfl
  | some i => obtain ⟨h1, h2, _⟩ := fidx_some h; exact absurd h2 (hb i h1)

def bset (L : List (κ × Int × Int)) (k : κ) (p : Int × Int) : List (κ × Int × Int) := match fidx L k with | some i => L.set i (k, p) | none => L ++ [(k, p)]
theorem bset_some {L : List (κ × Int × Int)} {k : κ} {p : Int × Int} {i : Nat} (h : fidx L k = some i) : bset L k p = L.set i (k, p) := by unfold bset; rw [h]
theorem bset_none {L : List (κ × Int × Int)} {k : κ} {p : Int × Int} (h : fidx L k = none) : bset L k p = L ++ [(k, p)] := by unfold bset; rw [h]
theorem bset_cons (x : κ × Int × Int) (t : List (κ × Int × Int)) (k : κ) (p : Int × Int) : bset (x :: t) k p = if x.1 = k then (k, p) :: t else x :: bset t k p := by
  by_cases hx : x.1 = k
  · rw [if_pos hx, bset_some (i := 0) (by simp [fidx, hx])]; rfl
  · rw [if_neg hx]
    cases h : fidx t k with
    | none => rw [bset_none h, bset_none (by simp [fidx, hx, h])]; rfl
    | some i => rw [bset_some h, bset_some (i := i + 1) (by simp [fidx, hx, h])]; rfl
theorem get_bset (L : List (κ × Int × Int)) (k k' : κ) (p : Int × Int) : getL (bset L k p) k' = if k' = k then some p else getL L k' := by
  induction L with
  | nil =>
    rw [bset_none (by rfl)]
    by_cases h : k' = k
    · simp [getL, h]
    · have h3 : ¬ k = k' := fun e => h e.symm
      simp [getL, h, h3]
  | cons x t ih =>
    rw [bset_cons]
    by_cases hx : x.1 = k
    · rw [if_pos hx]
      by_cases h : k' = k
      · simp [getL, h]
      · have h2 : x.1 ≠ k' := fun e => h (by rw [← e, hx])
        have h3 : ¬ k = k' := fun e => h e.symm
        simp [getL, h, h2, h3]
    · rw [if_neg hx]
      by_cases h2 : x.1 = k'
      · have h : ¬ k' = k := fun e => hx (by rw [h2, e])
        simp [getL, h2, h]
      · simp [getL, h2, ih]
theorem keys_bset (L : List (κ × Int × Int)) (k : κ) (p : Int × Int) : (bset L k p).map (·.1) = if getL L k = none then L.map (·.1) ++ [k] else L.map (·.1) := by
  induction L with
  | nil => rw [bset_none (by rfl)]; simp [getL]
  | cons x t ih =>
    rw [bset_cons]
    by_cases hx : x.1 = k
    · simp [hx, getL]
    · simp only [if_neg hx, List.map_cons, ih, getL]
      split <;> rfl
theorem get_none_iff (L : List (κ × Int × Int)) (k : κ) : getL L k = none ↔ k ∉ L.map (·.1) := by
  induction L with
  | nil => simp [getL]
  | cons x t ih =>
    by_cases hx : x.1 = k
    · simp [getL, hx]
    · have : ¬ k = x.1 := fun e => hx e.symm
      simp only [getL, if_neg hx, ih, List.map_cons, List.mem_cons, this, false_or]
theorem bset_length (L : List (κ × Int × Int)) (k : κ) (p : Int × Int) : (bset L k p).length ≤ L.length + 1 := by
  unfold bset
  split <;> simp
theorem nodup_bset {L : List (κ × Int × Int)} (h : (L.map (·.1)).Nodup) (k : κ) (p : Int × Int) : ((bset L k p).map (·.1)).Nodup := by
  rw [keys_bset]
  split
  · rename_i hn
    rw [get_none_iff] at hn
    rw [List.nodup_append]
    exact ⟨h, by simp, fun a ha b hb e => by simp at hb; subst hb; subst e; exact hn ha⟩
  · exact h

/-- Bounds and amounts are such as the code makes them. -/
def okP (p : Int × Int) : Prop := 0 ≤ p.1 ∧ p.1 < 9223372036854775808 ∧ 0 ≤ p.2 ∧ p.2 < 9223372036854775808
def Good (L : List (κ × Int × Int)) : Prop := ∀ x ∈ L, okP x.2
theorem Good.get {L : List (κ × Int × Int)} (h : Good L) {k : κ} {p : Int × Int} (hg : getL L k = some p) : okP p := by
  cases hf : fidx L k with
  | none => rw [(fidx_none hf).1] at hg; cases hg
  | some i =>
    obtain ⟨h1, _, h3⟩ := fidx_some hf
    rw [h3] at hg
    injection hg with hg
    rw [← hg]
    exact h _ (List.getElem_mem h1)
theorem Good.bset {L : List (κ × Int × Int)} (h : Good L) (k : κ) {p : Int × Int} (hp : okP p) : Good (bset L k p) := by
  intro x hx
  unfold Proofs.Ytdgcppglpmlgkaa.bset at hx
  split at hx
  · rcases List.mem_or_eq_of_mem_set hx with h1 | h1
    · exact h x h1
    · rw [h1]; exact hp
  · rcases List.mem_append.1 hx with h1 | h1
    · exact h x h1
    · simp at h1; rw [h1]; exact hp
theorem Good.nil : Good ([] : List (κ × Int × Int)) := fun x hx => by simp at hx

def usedV (L : List (κ × Int × Int)) (k : κ) : Int := match getL L k with | none => 0 | some p => p.2
def leftV (L : List (κ × Int × Int)) (k : κ) : Int := match getL L k with | none => 0 | some p => max (p.1 - p.2) 0
def takeB (L : List (κ × Int × Int)) (k : κ) (n : Int) : Bool := match getL L k with | none => false | some p => decide (0 ≤ n) && decide (n ≤ p.1 - p.2)
def giveB (L : List (κ × Int × Int)) (k : κ) (n : Int) : Bool := match getL L k with | none => false | some p => decide (0 ≤ n) && decide (n ≤ p.2)
def bLimit (L : List (κ × Int × Int)) (k : κ) (n : Int) : List (κ × Int × Int) := bset L k (max n 0, usedV L k)
def limV (L : List (κ × Int × Int)) (k : κ) : Int := match getL L k with | none => 0 | some p => p.1
def bTake (L : List (κ × Int × Int)) (k : κ) (n : Int) : List (κ × Int × Int) := if takeB L k n then bset L k (limV L k, usedV L k + n) else L
def bGive (L : List (κ × Int × Int)) (k : κ) (n : Int) : List (κ × Int × Int) := if giveB L k n then bset L k (limV L k, usedV L k - n) else L
theorem Good.used {L : List (κ × Int × Int)} (h : Good L) (k : κ) : 0 ≤ usedV L k ∧ usedV L k < 9223372036854775808 := by
  unfold usedV
  split
  · omega
  · rename_i p hp; exact ⟨(h.get hp).2.2.1, (h.get hp).2.2.2⟩
theorem Good.limit {L : List (κ × Int × Int)} (h : Good L) (k : κ) {n : Int} (hn : n < 9223372036854775808) : Good (bLimit L k n) :=
  h.bset k ⟨by simp only; omega, by simp only; omega, (h.used k).1, (h.used k).2⟩
theorem Good.take {L : List (κ × Int × Int)} (h : Good L) (k : κ) (n : Int) : Good (bTake L k n) := by
  unfold bTake
  split
  · rename_i ht
    unfold takeB at ht
    split at ht
    · simp at ht
    · rename_i p hp
      simp at ht
      have := h.get hp
      unfold okP at this
      refine h.bset k ?_
      unfold okP limV usedV
      rw [hp]
      simp only
      omega
  · exact h
theorem Good.give {L : List (κ × Int × Int)} (h : Good L) (k : κ) (n : Int) : Good (bGive L k n) := by
  unfold bGive
  split
  · rename_i ht
    unfold giveB at ht
    split at ht
    · simp at ht
    · rename_i p hp
      simp at ht
      have := h.get hp
      unfold okP at this
      refine h.bset k ?_
      unfold okP limV usedV
      rw [hp]
      simp only
      omega
  · exact h
end

/-! Sorting by insertion -/
structure KOrd {κ : Type} (lt : κ → κ → Bool) : Prop where
  irrefl : ∀ a, lt a a = false
  trans : ∀ a b c, lt a b = true → lt b c = true → lt a c = true
  total : ∀ a b, a ≠ b → lt a b = true ∨ lt b a = true
section
variable {κ : Type} {lt : κ → κ → Bool}
abbrev Sorted (lt : κ → κ → Bool) (s : List κ) : Prop := s.Pairwise (fun a b => lt a b = true)
theorem sorted_insert (O : KOrd lt) {s : List κ} (hs : Sorted lt s) {k : κ} {at_ : Nat} (ha : at_ ≤ s.length) (h1 : ∀ x ∈ s.drop at_, lt k x = true) (h2 : ∀ (h : 0 < at_) (h' : at_ - 1 < s.length), lt k s[at_ - 1] = false) (hk : k ∉ s) :
    Sorted lt (s.take at_ ++ k :: s.drop at_) := by
  have hsplit : Sorted lt (s.take at_ ++ s.drop at_) := by rw [List.take_append_drop]; exact hs
  replace hsplit := List.pairwise_append.1 hsplit
  refine List.pairwise_append.2 ⟨hsplit.1, List.pairwise_cons.2 ⟨h1, hsplit.2.1⟩, ?_⟩
  intro a ham b hb
  rcases List.mem_cons.1 hb with rfl | hb
  · obtain ⟨j, hj, rfl⟩ := List.getElem_of_mem ham
    have hj2 : j < at_ ∧ j < s.length := by rw [List.length_take] at hj; omega
    have hl : at_ - 1 < s.length := by omega
    have e1 := h2 (by omega) hl
    have e2 : lt s[at_ - 1] b = true := by
      rcases O.total s[at_ - 1] b (fun e => hk (by rw [← e]; exact List.getElem_mem hl)) with h | h
      · exact h
      · rw [e1] at h; cases h
    rw [List.getElem_take]
    rcases Nat.lt_or_ge j (at_ - 1) with h | h
    · exact O.trans _ _ _ (List.pairwise_iff_getElem.1 hs j (at_ - 1) hj2.2 hl h) e2
    · have : j = at_ - 1 := by omega
      subst this; exact e2
  · exact hsplit.2.2 a ham b hb

/-- The row while a thing goes down: below at_ it is as it was, above it all is one place further. -/
def Down (s M : List κ) (at_ : Nat) : Prop := M.length = s.length + 1 ∧ at_ ≤ s.length ∧ M.take at_ = s.take at_ ∧ M.drop (at_ + 1) = s.drop at_
theorem Down.start (s : List κ) (k : κ) : Down s (s ++ [k]) s.length := by
  refine ⟨by simp, Nat.le_refl _, by simp, ?_⟩
  rw [List.drop_of_length_le (by simp), List.drop_of_length_le (by simp)]
theorem Down.below {s M : List κ} {at_ : Nat} (h : Down s M at_) (hp : 0 < at_) : ∃ (h1 : at_ - 1 < M.length) (h2 : at_ - 1 < s.length), M[at_ - 1] = s[at_ - 1] := by
  obtain ⟨h1, h2, h3, h4⟩ := h
  refine ⟨by omega, by omega, ?_⟩
  have a : (M.take at_)[at_ - 1]? = (s.take at_)[at_ - 1]? := by rw [h3]
  rw [List.getElem?_take, List.getElem?_take, if_pos (by omega), if_pos (by omega), List.getElem?_eq_getElem (by omega), List.getElem?_eq_getElem (by omega)] at a
  injection a
theorem Down.step {s M : List κ} {at_ : Nat} (h : Down s M at_) (hp : 0 < at_) {x : κ} (hx : ∀ h2 : at_ - 1 < s.length, x = s[at_ - 1]) : Down s (M.set at_ x) (at_ - 1) := by
  obtain ⟨h1, h2, h3, h4⟩ := h
  refine ⟨by simpa using h1, by omega, ?_, ?_⟩
  · rw [List.take_set_of_le (by omega)]
    have := congrArg (List.take (at_ - 1)) h3
    rw [List.take_take, List.take_take] at this
    have e : min (at_ - 1) at_ = at_ - 1 := by omega
    rw [e] at this
    exact this
  · have e : at_ - 1 + 1 = at_ := by omega
    rw [e]
    have hl : at_ < (M.set at_ x).length := by rw [List.length_set]; omega
    rw [List.drop_eq_getElem_cons hl, List.getElem_set_self, List.drop_set_of_lt (by omega), h4, List.drop_eq_getElem_cons (show at_ - 1 < s.length by omega), ← hx (by omega)]
    rw [e]
theorem Down.done {s M : List κ} {at_ : Nat} (h : Down s M at_) (k : κ) : M.set at_ k = s.take at_ ++ k :: s.drop at_ := by
  obtain ⟨h1, h2, h3, h4⟩ := h
  have hl : at_ < (M.set at_ k).length := by rw [List.length_set]; omega
  conv => lhs; rw [← List.take_append_drop at_ (M.set at_ k)]
  rw [List.take_set_of_le (Nat.le_refl _), h3, List.drop_eq_getElem_cons hl, List.getElem_set_self, List.drop_set_of_lt (by omega), h4]
end

theorem kord_int : KOrd (fun a b : Int => decide (a < b)) :=
  ⟨fun a => by simp, fun a b c h1 h2 => by simp at *; omega, fun a b h => by simp; omega⟩

theorem bl_irrefl : ∀ a : List UInt8, Op.bytesLess a a = false
  | [] => rfl
  | a :: x => by simp [Op.bytesLess, bl_irrefl x]
theorem bl_trans : ∀ a b c : List UInt8, Op.bytesLess a b = true → Op.bytesLess b c = true → Op.bytesLess a c = true
  | _, _, [] => by intro _ h; simp [Op.bytesLess] at h
  | _, [], _ :: _ => by intro h; simp [Op.bytesLess] at h
  | [], _ :: _, _ :: _ => by intro _ _; rfl
  | a :: x, b :: y, c :: z => by
    intro h1 h2
    simp only [Op.bytesLess, Bool.or_eq_true, Bool.and_eq_true, decide_eq_true_eq, beq_iff_eq] at *
    rcases h1 with h1 | ⟨rfl, h1⟩
    · rcases h2 with h2 | ⟨rfl, h2⟩
      · exact .inl (UInt8.lt_trans h1 h2)
      · exact .inl h1
    · rcases h2 with h2 | ⟨rfl, h2⟩
      · exact .inl h2
      · exact .inr ⟨rfl, bl_trans x y z h1 h2⟩
theorem bl_total : ∀ a b : List UInt8, a ≠ b → Op.bytesLess a b = true ∨ Op.bytesLess b a = true
  | [], [] => fun h => absurd rfl h
  | [], _ :: _ => fun _ => .inl rfl
  | _ :: _, [] => fun _ => .inr rfl
  | a :: x, b :: y => by
    intro h
    simp only [Op.bytesLess, Bool.or_eq_true, Bool.and_eq_true, decide_eq_true_eq, beq_iff_eq]
    rcases Nat.lt_trichotomy a.toNat b.toNat with h1 | h1 | h1
    · exact .inl (.inl h1)
    · have : a = b := UInt8.toNat_inj.1 h1
      subst this
      rcases bl_total x y (fun e => h (by rw [e])) with h2 | h2
      · exact .inl (.inr ⟨rfl, h2⟩)
      · exact .inr (.inr ⟨rfl, h2⟩)
    · exact .inr (.inl h1)
theorem toList_inj {a b : ByteArray} (h : a.toList = b.toList) : a = b := by
  rw [Lib.toList_data, Lib.toList_data] at h
  cases a; cases b
  simp at h
  simp [h]
theorem toList_beq (a b : ByteArray) : (a.toList == b.toList) = decide (a = b) := by
  by_cases h : a = b
  · simp [h]
  · simp [h]; exact fun e => h (toList_inj e)
abbrev sLt (a b : ByteArray) : Bool := Op.bytesLess a.toList b.toList
theorem kord_str : KOrd sLt :=
  ⟨fun a => bl_irrefl _, fun a b c h1 h2 => bl_trans _ _ _ h1 h2, fun a b h => bl_total _ _ (fun e => h (toList_inj e))⟩
end Go.Proofs.Ytdgcppglpmlgkaa
