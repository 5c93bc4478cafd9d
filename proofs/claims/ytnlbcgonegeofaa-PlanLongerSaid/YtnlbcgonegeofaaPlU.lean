/- Ticks of a cycle, counted: of each tenant, and slots' ends. No condition. -/
import Derived.Test.YtnlbcgonegeofaaPlT
namespace Go.Proofs.Ytnlbcgonegeofaa
open Go.RowKit
set_option linter.unusedVariables false
set_option linter.unusedSimpArgs false

/-- The ticks of a tenant's slots. -/
def lens (xs : List Sl) (k : Int) : Nat := ((xs.filter fun s => s.owner == k).map Sl.n).sum
theorem lens_take {xs : List Sl} (who : Int) {j : Nat} (hj : j < xs.length) : lens (xs.take (j + 1)) who = lens (xs.take j) who + (if xs[j].owner = who then xs[j].n else 0) := by
  unfold lens
  rw [List.take_add_one]
  simp only [hj, List.getElem?_eq_getElem, Option.toList_some, List.filter_append, List.map_append, List.sum_append]
  by_cases h : xs[j].owner = who <;> simp [h]
theorem lens_zero (xs : List Sl) (who : Int) : lens (xs.take 0) who = 0 := by simp [lens]
/-- Ticks of a tenant behind t, of n; ends of slots. -/
noncomputable def tkF (xs : List Sl) (k : Int) (x : Nat) : Nat := by classical exact if atO xs (1 + x) = k then 1 else 0
noncomputable def edF (xs : List Sl) (x : Nat) : Nat := if atE xs (1 + x) = true then 1 else 0
/-- t is the first time. -/
noncomputable def tk (xs : List Sl) (t : Nat) (k : Int) (n : Nat) : Nat := sumF (fun y => tkF xs k (t - 1 + y)) n
noncomputable def ed (xs : List Sl) (t : Nat) (n : Nat) : Nat := sumF (fun y => edF xs (t - 1 + y)) n
theorem tkF_period {xs : List Sl} {k : Int} (x : Nat) : tkF xs k (x + cyc xs) = tkF xs k x := by
  have := (at_add (xs := xs) (t := 1 + x) (by omega) 1).1
  rw [Nat.one_mul, Nat.add_assoc] at this
  unfold tkF; rw [this]
theorem edF_period {xs : List Sl} (x : Nat) : edF xs (x + cyc xs) = edF xs x := by
  have := (at_add (xs := xs) (t := 1 + x) (by omega) 1).2
  rw [Nat.one_mul, Nat.add_assoc] at this
  unfold edF; rw [this]
theorem window {f : Nat → Nat} {c : Nat} (h : ∀ x, f (x + c) = f x) (x : Nat) : sumF (fun y => f (x + y)) c = sumF f c := by
  have h1 := sumF_add f x c
  have h2 := sumF_period h x
  omega
theorem at_in {xs : List Sl} (g : Gd xs) {j y : Nat} (hj : j < xs.length) (hy : y < xs[j].n) : atO xs (1 + (pre xs j + y)) = xs[j].owner ∧ atE xs (1 + (pre xs j + y)) = decide (y + 1 = xs[j].n) := by
  have h1 := pre_succ hj
  have h2 := pre_mono g (show j + 1 ≤ xs.length from hj) (Nat.le_refl _)
  have e : (1 + (pre xs j + y) - 1) % cyc xs = pre xs j + y := by
    rw [show 1 + (pre xs j + y) - 1 = pre xs j + y by omega, Nat.mod_eq_of_lt (by unfold cyc; omega)]
  have h := at_of g (t := 1 + (pre xs j + y)) (i := j) (by omega) hj (by rw [e]; omega) (by rw [e]; omega)
  refine ⟨h.1, h.2.trans ?_⟩
  rw [e]
  congr 1
  apply propext
  omega
theorem tk_cycle {xs : List Sl} (g : Gd xs) (t : Nat) (k : Int) : tk xs t k (cyc xs) = lens xs k := by
  unfold tk
  rw [window tkF_period]
  have := sumF_slots g (f := tkF xs k) (G := fun j => lens (xs.take j) k) (lens_zero _ _) ?_ (Nat.le_refl _)
  · rw [this, List.take_length]
  · intro j hj
    show lens (xs.take (j + 1)) k = lens (xs.take j) k + _
    rw [lens_take k hj, sumF_congr (h := fun _ => if xs[j].owner = k then 1 else 0), sumF_const]
    · by_cases h : xs[j].owner = k
      · rw [if_pos h, if_pos h, Nat.one_mul]
      · rw [if_neg h, if_neg h, Nat.zero_mul]
    · intro y hy
      unfold tkF
      rw [(at_in g hj hy).1]
theorem ed_cycle {xs : List Sl} (g : Gd xs) (t : Nat) : ed xs t (cyc xs) = xs.length := by
  unfold ed
  rw [window edF_period]
  refine sumF_slots g (f := edF xs) (G := fun j => j) rfl ?_ (Nat.le_refl _)
  intro j hj
  show j + 1 = j + _
  rw [sumF_congr (h := fun y => if y + 1 = xs[j].n then 1 else 0), sumF_last _ (by have := (g.n hj).1; omega)]
  intro y hy
  unfold edF
  rw [(at_in g hj hy).2]
  by_cases h : y + 1 = xs[j].n
  · rw [if_pos (decide_eq_true h), if_pos h]
  · rw [if_neg (by simpa using h), if_neg h]
theorem tk_succ {xs : List Sl} {t n : Nat} (ht : 0 < t) (k : Int) : tk xs t k (n + 1) = tk xs t k n + (if atO xs (t + n) = k then 1 else 0) := by
  unfold tk
  rw [sumF]
  congr 1
  unfold tkF
  rw [show 1 + (t - 1 + n) = t + n by omega]
theorem ed_succ {xs : List Sl} {t n : Nat} (ht : 0 < t) : ed xs t (n + 1) = ed xs t n + (if atE xs (t + n) = true then 1 else 0) := by
  unfold ed
  rw [sumF]
  congr 1
  unfold edF
  rw [show 1 + (t - 1 + n) = t + n by omega]
theorem sumF_add2 (f h : Nat → Nat) (n : Nat) : sumF (fun y => f y + h y) n = sumF f n + sumF h n := by
  induction n with
  | zero => rfl
  | succ n ih => simp only [sumF]; rw [ih]; omega
theorem sumF_one {n o : Nat} (h : o < n) (v : Nat) : sumF (fun k => if (o : Int) = (k : Int) then v else 0) n = v := by
  obtain ⟨d, rfl⟩ : ∃ d, n = o + (1 + d) := ⟨n - o - 1, by omega⟩
  rw [sumF_add, sumF_congr (h := fun _ => 0) (n := o) (fun y hy => if_neg (by omega)), sumF_zero, sumF_add, sumF_congr (h := fun _ => 0) (n := d) (fun y hy => if_neg (by omega)), sumF_zero]
  simp [sumF]
/-- All tenants' ticks are the cycle's. -/
theorem lens_sum {xs : List Sl} {tn : Nat} (h : ∀ i (h : i < xs.length), 0 ≤ xs[i].owner ∧ xs[i].owner < tn) : sumF (fun k => lens xs k) tn = cyc xs := by
  have key : ∀ j, j ≤ xs.length → sumF (fun k => lens (xs.take j) k) tn = pre xs j := by
    intro j
    induction j with
    | zero => intro _; rw [pre_zero]; exact (sumF_congr fun y _ => lens_zero _ _).trans (sumF_zero tn)
    | succ j ih =>
      intro hj
      have hj' : j < xs.length := hj
      obtain ⟨o, ho⟩ := Int.eq_ofNat_of_zero_le (h j hj').1
      have ho2 := (h j hj').2
      rw [pre_succ hj', ← ih (by omega), sumF_congr (h := fun k => lens (xs.take j) k + (if (o : Int) = (k : Int) then xs[j].n else 0)) (fun y _ => by rw [lens_take _ hj', ho]), sumF_add2, sumF_one (by omega)]
  have := key xs.length (Nat.le_refl _)
  rwa [List.take_length] at this
theorem lens_pre {xs : List Sl} (g : Gd xs) (k : Int) {j : Nat} (hj : j ≤ xs.length) : lens (xs.take j) k ≤ pre xs j := by
  induction j with
  | zero => rw [lens_zero]; omega
  | succ j ih =>
    have := ih (by omega)
    rw [lens_take k (by omega), pre_succ (by omega)]
    split <;> omega
theorem lens_le {xs : List Sl} (g : Gd xs) (k : Int) : lens xs k ≤ cyc xs := by
  have := lens_pre g k (Nat.le_refl _)
  rwa [List.take_length] at this
theorem tk_le (xs : List Sl) (t : Nat) (k : Int) (n : Nat) : tk xs t k n ≤ n := by
  have := sumF_le (f := fun y => tkF xs k (t - 1 + y)) (h := fun _ => 1) n (fun y => by unfold tkF; split <;> omega)
  rwa [sumF_const, Nat.one_mul] at this
theorem ed_le (xs : List Sl) (t : Nat) (n : Nat) : ed xs t n ≤ n := by
  have := sumF_le (f := fun y => edF xs (t - 1 + y)) (h := fun _ => 1) n (fun y => by unfold edF; split <;> omega)
  rwa [sumF_const, Nat.one_mul] at this
theorem atO_own {xs : List Sl} (g : Gd xs) {t : Nat} (ht : 0 < t) : ∃ i, ∃ h : i < xs.length, atO xs t = xs[i].owner := by
  have hm := Nat.mod_lt (t - 1) (cyc_pos g)
  obtain ⟨i, h1, h2, h3⟩ := ix_ex g hm
  exact ⟨i, h1, (at_of g ht h1 h2 h3).1⟩
theorem and60 {x : Int} (h : 0 ≤ x ∧ x < 18446744073709551616) : Go.bits .and .u64 x 1152921504606846975 = x % 1152921504606846976 :=
  bits_mask .u64 64 (by decide) (fun n h0 h1 => by rw [IntKind.wrap_u64]; omega) 60 (by decide) x h.1 h.2
end Go.Proofs.Ytnlbcgonegeofaa
