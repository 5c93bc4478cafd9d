/- Sets of bits by what is in them, in plain Lean. -/
import Derived.Test.YtlkhpkdndmlnaaaDoorAp2
namespace Go.Proofs.YtlkhpkdndmlnaaaDoor
open Go.RowKit
set_option linter.unusedVariables false
set_option linter.unusedSimpArgs false
set_option linter.unusedSectionVars false

/-- The set of n with just those in that P says. -/
def ofS (n : Nat) (P : Nat → Bool) : List Bool := (List.range n).map P
theorem ofS_len (n : Nat) (P : Nat → Bool) : (ofS n P).length = n := by unfold ofS; simp
theorem ofS_ext {n : Nat} {P Q : Nat → Bool} (h : ∀ i, i < n → P i = Q i) : ofS n P = ofS n Q := by
  unfold ofS; apply List.map_congr_left; intro i hi; exact h i (List.mem_range.1 hi)
theorem ofS_at {n : Nat} {P : Nat → Bool} {i : Nat} (h : i < n) : (ofS n P)[i]'(by rw [ofS_len]; exact h) = P i := by unfold ofS; simp
theorem ofS_false (n : Nat) : List.replicate n false = ofS n (fun _ => false) := by
  apply List.ext_getElem
  · rw [ofS_len]; simp
  · intro i h1 h2; rw [ofS_len] at h2; rw [ofS_at h2]; simp
theorem ofS_set {n : Nat} {P : Nat → Bool} {k : Nat} (b : Bool) : (ofS n P).set k b = ofS n (fun i => if i = k then b else P i) := by
  apply List.ext_getElem
  · rw [List.length_set, ofS_len, ofS_len]
  · intro i h1 h2
    rw [ofS_len] at h2
    rw [ofS_at h2, List.getElem_set]
    by_cases h : k = i
    · subst h; simp
    · rw [if_neg h, if_neg (fun e => h e.symm), ofS_at h2]
theorem hasB_of {n : Nat} {P : Nat → Bool} {k : Int} : hasB (ofS n P) k = (decide (0 ≤ k) && decide (k < n) && P k.toNat) := by
  by_cases h0 : 0 ≤ k
  · obtain ⟨K, rfl⟩ := Int.eq_ofNat_of_zero_le h0
    by_cases hk : K < n
    · rw [hasB_nat (by rw [ofS_len]; exact hk), ofS_at hk]; simp [hk]
    · rw [hasB_out (by rw [ofS_len]; omega)]; simp [hk]
  · rw [hasB_neg (by omega)]; simp [h0]
theorem putB_of {n : Nat} {P : Nat → Bool} {k : Int} : putB (ofS n P) k = (decide (0 ≤ k) && decide (k < n) && !P k.toNat) := by
  by_cases h0 : 0 ≤ k
  · obtain ⟨K, rfl⟩ := Int.eq_ofNat_of_zero_le h0
    by_cases hk : K < n
    · rw [putB_nat (by rw [ofS_len]; exact hk), ofS_at hk]; simp [hk]
    · rw [putB_out (by rw [ofS_len]; omega)]; simp [hk]
  · rw [putB_neg (by omega)]; simp [h0]
theorem putL_of {n : Nat} {P : Nat → Bool} {k : Int} : putL (ofS n P) k = ofS n (fun i => P i || decide ((i : Int) = k)) := by
  unfold putL
  rw [putB_of]
  by_cases h : (decide (0 ≤ k) && decide (k < n) && !P k.toNat) = true
  · rw [if_pos h, ofS_set]
    simp at h
    apply ofS_ext
    intro i hi
    by_cases hik : i = k.toNat
    · rw [if_pos hik, show decide ((i : Int) = k) = true by simp; omega]; simp
    · rw [if_neg hik, show decide ((i : Int) = k) = false by simp; omega]; simp
  · rw [if_neg h]
    apply ofS_ext
    intro i hi
    by_cases hik : (i : Int) = k
    · subst hik
      simp [hi] at h
      simp [h]
    · simp [hik]
theorem dropL_of {n : Nat} {P : Nat → Bool} {k : Int} : dropL (ofS n P) k = ofS n (fun i => P i && !decide ((i : Int) = k)) := by
  unfold dropL
  rw [hasB_of]
  by_cases h : (decide (0 ≤ k) && decide (k < n) && P k.toNat) = true
  · rw [if_pos h, ofS_set]
    simp at h
    apply ofS_ext
    intro i hi
    by_cases hik : i = k.toNat
    · rw [if_pos hik, show decide ((i : Int) = k) = true by simp; omega]; simp
    · rw [if_neg hik, show decide ((i : Int) = k) = false by simp; omega]; simp
  · rw [if_neg h]
    apply ofS_ext
    intro i hi
    by_cases hik : (i : Int) = k
    · subst hik
      simp [hi] at h
      simp [h]
    · simp [hik]

/-- Is a number one of a list? -/
def memI (M : List Int) (i : Nat) : Bool := decide ((i : Int) ∈ M)
theorem memI_snoc (M : List Int) (x : Int) (i : Nat) : (memI M i || decide ((i : Int) = x)) = memI (M ++ [x]) i := by
  unfold memI; rw [Bool.eq_iff_iff]; simp
theorem memI_cons (M : List Int) (x : Int) (i : Nat) : (memI M i || decide ((i : Int) = x)) = memI (x :: M) i := by
  unfold memI; rw [Bool.eq_iff_iff]; simp [or_comm]
theorem put_snoc (n : Nat) (M : List Int) (x : Int) : putL (ofS n (memI M)) x = ofS n (memI (M ++ [x])) := by
  rw [putL_of]; exact ofS_ext fun i _ => memI_snoc M x i
theorem put_cons (n : Nat) (M : List Int) (x : Int) : putL (ofS n (memI M)) x = ofS n (memI (x :: M)) := by
  rw [putL_of]; exact ofS_ext fun i _ => memI_cons M x i
/-- What is put in besides. -/
def orI (L F : List Int) (i : Nat) : Bool := memI L i || memI F i
def Fresh (n : Nat) (L F : List Int) : Prop := F.Nodup ∧ ∀ f ∈ F, 0 ≤ f ∧ f < n ∧ f ∉ L
theorem Fresh.nil (n : Nat) (L : List Int) : Fresh n L [] := ⟨List.nodup_nil, fun f h => by simp at h⟩
theorem orI_nil (n : Nat) (L : List Int) : ofS n (orI L []) = ofS n (memI L) := ofS_ext fun i _ => by unfold orI memI; simp
theorem fresh_yes {n : Nat} {L F : List Int} {x : Int} (h : Fresh n L F) (hp : putB (ofS n (orI L F)) x = true) : Fresh n L (F ++ [x]) ∧ putL (ofS n (orI L F)) x = ofS n (orI L (F ++ [x])) := by
  rw [putB_of] at hp
  simp only [Bool.and_eq_true, decide_eq_true_eq, Bool.not_eq_true'] at hp
  obtain ⟨⟨h0, h1⟩, h2⟩ := hp
  have e : ((x.toNat : Nat) : Int) = x := by omega
  unfold orI memI at h2
  rw [e] at h2
  simp at h2
  refine ⟨⟨List.nodup_append.2 ⟨h.1, by simp, fun a ha b hb => by simp at hb; subst hb; intro e; subst e; exact h2.2 ha⟩, fun f hf => ?_⟩, ?_⟩
  · rcases List.mem_append.1 hf with hf | hf
    · exact h.2 f hf
    · simp at hf; subst hf; exact ⟨h0, h1, h2.1⟩
  · rw [putL_of]
    apply ofS_ext
    intro i hi
    unfold orI
    rw [Bool.or_assoc, memI_snoc]
theorem put_no {X : List Bool} {x : Int} (hp : putB X x = false) : putL X x = X := by unfold putL; rw [hp]; rfl
theorem fresh_drop {n : Nat} {L F : List Int} {j : Nat} (h : Fresh n L F) (hj : j < F.length) : hasB (ofS n (orI L (F.drop j))) F[j] = true ∧ dropL (ofS n (orI L (F.drop j))) F[j] = ofS n (orI L (F.drop (j + 1))) := by
  obtain ⟨h0, h1, h2⟩ := h.2 F[j] (List.getElem_mem hj)
  have hd : F.drop j = F[j] :: F.drop (j + 1) := List.drop_eq_getElem_cons hj
  have hnd : F[j] ∉ F.drop (j + 1) := by
    have : (F.drop j).Nodup := h.1.sublist (List.drop_sublist _ _)
    rw [hd] at this
    exact (List.nodup_cons.1 this).1
  generalize F[j] = x at *
  have e : ((x.toNat : Nat) : Int) = x := by omega
  rw [hd]
  refine ⟨?_, ?_⟩
  · rw [hasB_of]; unfold orI memI; rw [e]; simp [h0, h1]
  · rw [dropL_of]
    apply ofS_ext
    intro i hi
    unfold orI memI
    by_cases hik : (i : Int) = x
    · rw [hik]; simp [h2, hnd]
    · simp [hik]
end Go.Proofs.YtlkhpkdndmlnaaaDoor
