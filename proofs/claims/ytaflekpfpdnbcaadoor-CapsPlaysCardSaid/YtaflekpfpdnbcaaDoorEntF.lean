/- What a region holds, place by place: in plain Lean. -/
import Derived.Test.YtaflekpfpdnbcaaDoorBitS4
namespace Go.Proofs.YtaflekpfpdnbcaaDoor
open Go
set_option linter.unusedVariables false
set_option linter.unusedSimpArgs false

section
variable {α : Type}
/-- The places from k on that are taken, rising, with what is in them. -/
def entF (z : α) (vs : List α) (X : List Bool) (k : Nat) : List (Nat × α) := ((List.range' k (X.length - k)).filter (fun j => X.getD j false)).map (fun j => (j, vs.getD j z))
theorem entF_lt (z : α) (vs : List α) {X : List Bool} {k : Nat} (hk : k < X.length) : entF z vs X k = if X[k] = true then (k, vs.getD k z) :: entF z vs X (k + 1) else entF z vs X (k + 1) := by
  unfold entF
  rw [show X.length - k = (X.length - (k + 1)) + 1 by omega, List.range'_succ, List.filter_cons]
  have : X.getD k false = X[k] := by simp [List.getD_eq_getElem?_getD, hk]
  rw [this]
  split <;> simp_all
theorem entF_ge (z : α) (vs : List α) {X : List Bool} {k : Nat} (hk : X.length ≤ k) : entF z vs X k = [] := by
  unfold entF
  rw [show X.length - k = 0 by omega]
  rfl
theorem entF_some (z : α) (vs : List α) {X : List Bool} {k j : Nat} (h : nextB X true k = some j) : entF z vs X k = (j, vs.getD j z) :: entF z vs X (j + 1) := by
  unfold nextB at h
  by_cases hk : k < X.length
  · rw [dif_pos hk] at h
    rw [entF_lt z vs hk]
    by_cases hb : X[k] = true
    · rw [if_pos hb] at h ⊢
      injection h with h; subst h; rfl
    · rw [if_neg hb] at h ⊢
      exact entF_some z vs h
  · rw [dif_neg hk] at h; cases h
termination_by X.length - k
theorem entF_none (z : α) (vs : List α) {X : List Bool} {k : Nat} (h : nextB X true k = none) : entF z vs X k = [] := by
  unfold nextB at h
  by_cases hk : k < X.length
  · rw [dif_pos hk] at h
    rw [entF_lt z vs hk]
    by_cases hb : X[k] = true
    · rw [if_pos hb] at h; cases h
    · rw [if_neg hb] at h ⊢
      exact entF_none z vs h
  · exact entF_ge z vs (by omega)
termination_by X.length - k
/-- All places that are taken, with what is in them; the places alone. -/
def entA (z : α) (vs : List α) (X : List Bool) : List (Nat × α) := entF z vs X 0
def plcs (X : List Bool) : List Int := ((List.range X.length).filter (fun j => X.getD j false)).map (fun j : Nat => (j : Int))
theorem entA_places (z : α) (vs : List α) (X : List Bool) : (entA z vs X).map (fun x => (x.1 : Int)) = plcs X := by
  unfold entA entF plcs
  rw [List.map_map, Nat.sub_zero, List.range_eq_range']
  rfl
theorem count_filter (X : List Bool) : ((List.range X.length).filter (fun j => X.getD j false)).length = X.count true := by
  induction X with
  | nil => rfl
  | cons a t ih =>
    rw [List.length_cons, List.range_succ_eq_map, List.filter_cons, List.filter_map, List.count_cons]
    have : ((List.range t.length).filter ((fun j => (a :: t).getD j false) ∘ Nat.succ)) = (List.range t.length).filter (fun j => t.getD j false) := by
      congr 1
    rw [this]
    rw [← ih]
    cases a <;> simp
theorem plcs_length (X : List Bool) : (plcs X).length = X.count true := by
  unfold plcs
  rw [List.length_map]; exact count_filter X
theorem entA_length (z : α) (vs : List α) (X : List Bool) : (entA z vs X).length = X.count true := by
  rw [← plcs_length, ← entA_places z vs, List.length_map]
theorem entF_length_le (z : α) (vs : List α) (X : List Bool) (k : Nat) : (entF z vs X k).length ≤ X.length - k := by
  unfold entF
  rw [List.length_map]
  refine Nat.le_trans (List.length_filter_le _ _) ?_
  simp
theorem entA_at (z : α) (vs : List α) (X : List Bool) {i : Nat} (hi : i < (entA z vs X).length) : (entA z vs X)[i].1 < X.length ∧ hasB X ((entA z vs X)[i].1 : Int) = true ∧ vs.getD (entA z vs X)[i].1 z = (entA z vs X)[i].2 := by
  have hm := List.getElem_mem hi
  generalize (entA z vs X)[i] = e at *
  unfold entA entF at hm
  obtain ⟨j, hj, rfl⟩ := List.mem_map.1 hm
  obtain ⟨h1, h2⟩ := List.mem_filter.1 hj
  have h3 : j < X.length := by
    have := List.mem_range'_1.1 h1
    omega
  refine ⟨h3, ?_, rfl⟩
  rw [hasB_nat h3]
  simpa [List.getD_eq_getElem?_getD, h3] using h2
theorem entA_rise (z : α) (vs : List α) (X : List Bool) {i j : Nat} (hij : i < j) (hj : j < (entA z vs X).length) : (entA z vs X)[i].1 < (entA z vs X)[j].1 := by
  have hp : ((entA z vs X).map Prod.fst).Pairwise (· < ·) := by
    unfold entA entF
    rw [List.map_map]
    have : (Prod.fst ∘ fun j => (j, vs.getD j z)) = (id : Nat → Nat) := rfl
    rw [this, List.map_id]
    exact List.Pairwise.filter _ (List.pairwise_lt_range')
  have := List.pairwise_iff_getElem.1 hp i j (by rw [List.length_map]; omega) (by rw [List.length_map]; exact hj) hij
  simpa using this
end
end Go.Proofs.YtaflekpfpdnbcaaDoor
