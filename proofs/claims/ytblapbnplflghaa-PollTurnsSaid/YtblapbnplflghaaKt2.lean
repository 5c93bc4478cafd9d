/- PollTurns: how often each is told. -/
import Derived.Test.YtblapbnplflghaaKt
namespace Go.Proofs.Ytblapbnplflghaa
open Go.RowKit
set_option linter.unusedVariables false
set_option linter.unusedSimpArgs false

def cntT (n t d : Nat) : Nat := (List.range t).countP (fun j => decide (j % n = d))
theorem cntT_succ (n t d : Nat) : cntT n (t + 1) d = cntT n t d + (if t % n = d then 1 else 0) := by
  unfold cntT
  rw [List.range_succ, List.countP_append]
  simp [List.countP_cons]
theorem cntT_eq {n d : Nat} (hn : 0 < n) (hd : d < n) : ∀ t, cntT n t d = t / n + (if d < t % n then 1 else 0)
  | 0 => by simp [cntT]
  | t + 1 => by
    rw [cntT_succ, cntT_eq hn hd t]
    have hm := Nat.mod_lt t hn
    have hdm := Nat.div_add_mod t n
    by_cases h : t % n + 1 = n
    · have e0 : t + 1 = n * (t / n + 1) := by rw [Nat.mul_add]; omega
      have e1 : (t + 1) / n = t / n + 1 := by rw [e0, Nat.mul_div_cancel_left _ hn]
      have e2 : (t + 1) % n = 0 := by rw [e0, Nat.mul_mod_right]
      rw [e1, e2]
      split <;> split <;> first | omega | (split <;> omega)
    · have e0 : t + 1 = (t % n + 1) + n * (t / n) := by omega
      have e1 : (t + 1) / n = t / n := by rw [e0, Nat.add_mul_div_left _ _ hn, Nat.div_eq_of_lt (by omega), Nat.zero_add]
      have e2 : (t + 1) % n = t % n + 1 := by rw [e0, Nat.add_mul_mod_self_left, Nat.mod_eq_of_lt (by omega)]
      rw [e1, e2]
      split <;> split <;> split <;> omega
theorem cntT_near {n d e : Nat} (hn : 0 < n) (hd : d < n) (he : e < n) (t : Nat) : cntT n t d ≤ cntT n t e + 1 := by
  rw [cntT_eq hn hd, cntT_eq hn he]
  split <;> split <;> omega
end Go.Proofs.Ytblapbnplflghaa
