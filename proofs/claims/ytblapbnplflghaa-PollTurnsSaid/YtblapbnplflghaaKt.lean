/- PollTurns: the queue turns round. -/
import Derived.Test.YtblapbnplflghaaPt
namespace Go.Proofs.Ytblapbnplflghaa
open Go.RowKit
set_option linter.unusedVariables false
set_option linter.unusedSimpArgs false
set_option maxRecDepth 100000

/-- So many devices one behind the other, from b on, round about. -/
def cyc (n b len : Nat) : List Th := (List.range len).map (fun i => (2, (((b + i) % n : Nat) : Int)))
theorem cyc_len (n b len : Nat) : (cyc n b len).length = len := by simp [cyc]
theorem cyc_succ (n b len : Nat) : cyc n b (len + 1) = cyc n b len ++ [(2, (((b + len) % n : Nat) : Int))] := by simp [cyc, List.range_succ]
theorem cyc_held (n b len : Nat) : heldT (cyc n b len) = len := by
  unfold heldT
  rw [List.countP_eq_length.2 (fun x hx => ?_), cyc_len]
  simp only [cyc, List.mem_map] at hx
  obtain ⟨i, -, rfl⟩ := hx
  simp
theorem cyc_tail {n b len : Nat} (h : 0 < len) : (cyc n b len).head? = some (2, ((b % n : Nat) : Int)) ∧ (cyc n b len).tail = cyc n (b + 1) (len - 1) := by
  obtain ⟨k, rfl⟩ : ∃ k, len = k + 1 := ⟨len - 1, by omega⟩
  unfold cyc
  rw [List.range_succ_eq_map]
  refine ⟨by simp, ?_⟩
  simp only [List.map_cons, List.tail_cons, List.map_map, Nat.add_sub_cancel]
  apply List.map_congr_left
  intro i _
  simp only [Function.comp]
  rw [show b + i.succ = b + 1 + i by omega]
theorem mod_ne {n x y : Nat} (hn : 0 < n) (h1 : x < y) (h2 : y < x + n) : x % n ≠ y % n := by
  intro e
  have a := Nat.div_add_mod x n
  have b := Nat.div_add_mod y n
  rw [e] at a
  have h3 : n * (x / n) < n * (y / n) := by omega
  have h4 : x / n < y / n := Nat.lt_of_mul_lt_mul_left h3
  have h5 : n * (x / n + 1) ≤ n * (y / n) := Nat.mul_le_mul_left n h4
  rw [Nat.mul_add] at h5
  omega
theorem cyc_not {n b len : Nat} (hn : 0 < n) (h : len < n) : ((2, (((b + len) % n : Nat) : Int)) : Th) ∉ cyc n b len := by
  intro hm
  simp only [cyc, List.mem_map, List.mem_range] at hm
  obtain ⟨i, hi, e⟩ := hm
  have e2 : (b + i) % n = (b + len) % n := by
    have := congrArg Prod.snd e
    simp only at this
    exact_mod_cast this
  exact mod_ne hn (by omega) (by omega) e2
theorem cyc_all {n b d : Nat} (hn : 0 < n) (hd : d < n) : ((2, (d : Int)) : Th) ∈ cyc n b n := by
  simp only [cyc, List.mem_map, List.mem_range]
  have hb := Nat.mod_lt b hn
  have hdm := Nat.div_add_mod b n
  by_cases h : b % n ≤ d
  · refine ⟨d - b % n, by omega, ?_⟩
    have : (b + (d - b % n)) % n = d := by
      rw [show b + (d - b % n) = d + n * (b / n) by omega, Nat.add_mul_mod_self_left, Nat.mod_eq_of_lt hd]
    rw [this]
  · refine ⟨d + n - b % n, by omega, ?_⟩
    have : (b + (d + n - b % n)) % n = d := by
      rw [show b + (d + n - b % n) = d + n * (b / n + 1) by rw [Nat.mul_add]; omega, Nat.add_mul_mod_self_left, Nat.mod_eq_of_lt hd]
    rw [this]
/-- Settled, where each has something to tell: as many wait as may. -/
theorem setQ_cyc {gs : List G} {n mo b len : Nat} (hn : 0 < n) (ht : ∀ d, d < n → (gs.getD d noG).told ≠ 0) (hl : len ≤ min n mo) : ∀ k, setQ gs 0 n mo ((b + len) % n) k (cyc n b len, (b + len) % n) = (cyc n b (min (len + k) (min n mo)), (b + min (len + k) (min n mo)) % n)
  | 0 => by rw [setQ_zero, Nat.add_zero, Nat.min_eq_left hl]
  | k + 1 => by
    rw [setQ_succ, setQ_cyc hn ht hl k]
    have hd : ((b + len) % n + k) % n < n := Nat.mod_lt _ hn
    have ed : ((b + len) % n + k) % n = (b + (len + k)) % n := by rw [Nat.mod_add_mod]; congr 1; omega
    unfold setStep
    rw [ed] at hd ⊢
    have hok : okB 0 n (2, (((b + (len + k)) % n : Nat) : Int)) = true := okB_iff.2 (.inr ⟨rfl, by simp only; omega, by simp only; omega⟩)
    by_cases hlt : len + k < min n mo
    · have e1 : min (len + k) (min n mo) = len + k := by omega
      have e2 : min (len + (k + 1)) (min n mo) = len + k + 1 := by omega
      have hp : pushB 0 n mo (cyc n b (len + k)) (2, (((b + (len + k)) % n : Nat) : Int)) = true := by
        unfold pushB
        rw [hok, cyc_held]
        have h1 : decide (mo ≤ len + k) = false := decide_eq_false (by omega)
        have h2 := decide_eq_false (cyc_not (b := b) hn (show len + k < n by omega))
        rw [h1, h2]; rfl
      rw [e1, e2, if_pos ⟨ht _ hd, hp⟩, cyc_succ]
      congr 1
      rw [Nat.mod_add_mod]; congr 1
    · have e1 : min (len + k) (min n mo) = min n mo := by omega
      have e2 : min (len + (k + 1)) (min n mo) = min n mo := by omega
      have hp : pushB 0 n mo (cyc n b (min n mo)) (2, (((b + (len + k)) % n : Nat) : Int)) = false := by
        unfold pushB
        rw [cyc_held]
        by_cases h : mo ≤ n
        · have h1 : decide (mo ≤ min n mo) = true := decide_eq_true (by omega)
          rw [h1]; simp
        · rw [show min n mo = n by omega]
          have h2 := decide_eq_true (cyc_all (b := b) hn hd)
          rw [h2]; simp
      rw [e1, e2, if_neg (by rw [hp]; simp)]
end Go.Proofs.Ytblapbnplflghaa
