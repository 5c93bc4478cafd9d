/- Next and Kth in plain numbers: how far away the next slots are. No condition. -/
import Derived.Test.YtnlbcgonegeofaaPlU
namespace Go.Proofs.Ytnlbcgonegeofaa
open Go.RowKit
set_option linter.unusedVariables false
set_option linter.unusedSimpArgs false

theorem mine_pos {xs : List Sl} {who : Int} (ho : ∃ i, Own xs who i) : 1 ≤ mineN xs who := mineN_pos.2 ho
/-- The j-th start behind t is within so many cycles. -/
theorem start_far {xs : List Sl} (g : Gd xs) {who : Int} (ho : ∃ i, Own xs who i) (t j : Nat) : startOf xs who (cnt xs who t + j) < t + (j + 1) * cyc xs := by
  have h := start_spec g ho (cnt xs who t + j)
  refine st_lt h.1 ?_
  rw [h.2, cnt_cycles g]
  have := mine_pos ho
  have h2 : (j + 1) * 1 ≤ (j + 1) * mineN xs who := Nat.mul_le_mul_left _ this
  omega
theorem start_near {xs : List Sl} (g : Gd xs) {who : Int} (ho : ∃ i, Own xs who i) (t : Nat) {j : Nat} (hj : j < mineN xs who) : startOf xs who (cnt xs who t + j) < t + cyc xs := by
  have h := start_spec g ho (cnt xs who t + j)
  refine st_lt h.1 ?_
  have := cnt_cycles g who t 1
  rw [Nat.one_mul, Nat.one_mul] at this
  rw [h.2, this]
  omega
theorem start_ge {xs : List Sl} (g : Gd xs) {who : Int} (ho : ∃ i, Own xs who i) (t j : Nat) : t ≤ startOf xs who (cnt xs who t + j) := by
  have h := start_spec g ho (cnt xs who t + j)
  exact st_le h.1 (by omega)
theorem start_turn {xs : List Sl} (g : Gd xs) {who : Int} (ho : ∃ i, Own xs who i) (m k : Nat) : startOf xs who (m + k * mineN xs who) = startOf xs who m + k * cyc xs := by
  have h := start_spec g ho m
  have h2 : St xs who (startOf xs who m + k * cyc xs) := (st_period k).2 h.1
  have h3 := cnt_cycles g who (startOf xs who m) k
  rw [h.2] at h3
  rw [← h3]
  exact start_eq g h2
theorem isNx_start {xs : List Sl} (g : Gd xs) {who : Int} (ho : ∃ i, Own xs who i) (t : Nat) : IsNx xs who t (startOf xs who (cnt xs who t)) := start_spec g ho _
/-- What Next answers at a time that is not too late. -/
theorem nx_yes {xs : List Sl} (g : Gd xs) {who : Int} (ho : ∃ i, Own xs who i) {t m : Nat} (hm : cnt xs who t = m) (hb : startOf xs who m + 1000 < U64) : nxV xs who t = (startOf xs who m, en xs (startOf xs who m), true) := by
  subst hm
  have h := isNx_start g ho t
  have h2 := (en_bd g h.1).2
  rw [nxV_of g h, if_pos (by omega)]
theorem kth_yes {xs : List Sl} (g : Gd xs) {who : Int} (ho : ∃ i, Own xs who i) {t m : Nat} {k : Int} (hk : 1 ≤ k) (hm : cnt xs who t + (k.toNat - 1) = m) (hb : startOf xs who m + 1000 < U64) : kthV xs who t k = (en xs (startOf xs who m), true) := by
  have h := start_spec g ho m
  have h2 := (en_bd g h.1).2
  exact kthV_yes g hk ho (by rw [hm]) (by omega)
theorem en_lt {xs : List Sl} (g : Gd xs) {who : Int} (ho : ∃ i, Own xs who i) {a b : Nat} (h : a < b) : en xs (startOf xs who a) < en xs (startOf xs who b) := by
  have h1 := start_spec g ho a
  have h2 := start_spec g ho b
  have h3 := en_le g h1.1 h2.1 (start_mono g ho h)
  have h4 := (en_bd g h2.1).1
  omega
theorem cnt_one {xs : List Sl} {who : Int} (t : Nat) : cnt xs who (t + 1) = cnt xs who t ∨ cnt xs who (t + 1) = cnt xs who t + 1 := by
  rw [cnt_succ]
  unfold st1
  split <;> omega
/-- The ticks of slots that begin ahead of a time. -/
noncomputable def lnF (xs : List Sl) (who : Int) (x : Nat) : Nat := by classical exact if St xs who x then en xs x - x else 0
noncomputable def gotT (xs : List Sl) (who : Int) (n : Nat) : Nat := sumF (lnF xs who) n
theorem lnF_no {xs : List Sl} {who : Int} {x : Nat} (h : ¬ St xs who x) : lnF xs who x = 0 := by unfold lnF; rw [if_neg h]
theorem lnF_yes {xs : List Sl} {who : Int} {x : Nat} (h : St xs who x) : lnF xs who x = en xs x - x := by unfold lnF; rw [if_pos h]
theorem lnF_period {xs : List Sl} {who : Int} (x : Nat) : lnF xs who (x + cyc xs) = lnF xs who x := by
  have h := st_period (xs := xs) (who := who) (x := x) 1
  have h2 := en_period (xs := xs) x 1
  rw [Nat.one_mul] at h h2
  by_cases hs : St xs who x
  · rw [lnF_yes hs, lnF_yes (h.2 hs), h2]; omega
  · rw [lnF_no hs, lnF_no (fun h3 => hs (h.1 h3))]
theorem gotT_cyc {xs : List Sl} (g : Gd xs) (who : Int) : gotT xs who (cyc xs) = lens xs who := by
  have := sumF_slots g (f := lnF xs who) (G := fun k => lens (xs.take k) who) (lens_zero _ _) ?_ (Nat.le_refl _)
  · unfold gotT; rw [this, List.take_length]
  · intro j hj
    show lens (xs.take (j + 1)) who = lens (xs.take j) who + _
    rw [lens_take who hj, sumF_congr (h := fun y => if y = 0 then (if xs[j].owner = who then xs[j].n else 0) else 0), sumF_first _ _ (g.n hj).1]
    intro y hy
    have := st_at g (who := who) hj hy
    by_cases h0 : y = 0
    · rw [if_pos h0]
      subst h0
      by_cases h1 : xs[j].owner = who
      · have hm : (pre xs j + 0) % cyc xs = pre xs j := by
          rw [Nat.add_zero]; exact Nat.mod_eq_of_lt (pre_mono_lt g hj (Nat.le_refl _))
        rw [if_pos h1, lnF_yes (this.2 ⟨rfl, h1⟩), en_of g hj hm]; omega
      · rw [if_neg h1, lnF_no (fun h2 => h1 (this.1 h2).2)]
    · rw [if_neg h0, lnF_no (fun h2 => h0 (this.1 h2).1)]
theorem gotT_turn {xs : List Sl} (g : Gd xs) (who : Int) (t : Nat) : gotT xs who (t + cyc xs) = gotT xs who t + lens xs who := by
  rw [← gotT_cyc g]; exact sumF_period lnF_period t
theorem gotT_same {xs : List Sl} {who : Int} {a b : Nat} (hab : a ≤ b) (h : cnt xs who b = cnt xs who a) : gotT xs who b = gotT xs who a := by
  obtain ⟨d, rfl⟩ : ∃ d, b = a + d := ⟨b - a, by omega⟩
  clear hab
  induction d with
  | zero => rfl
  | succ d ih =>
    have h1 : cnt xs who a ≤ cnt xs who (a + d) := cnt_mono (by omega)
    have h2 : cnt xs who (a + d + 1) = cnt xs who (a + d) + st1 xs who (a + d) := cnt_succ _
    rw [Nat.add_assoc] at h2
    have h3 : st1 xs who (a + d) = 0 := by omega
    have h4 : ¬ St xs who (a + d) := fun h => by rw [st1_yes h] at h3; omega
    rw [← Nat.add_assoc]
    unfold gotT
    rw [sumF, lnF_no h4]
    exact ih (by omega)
/-- One slot on. -/
theorem gotT_next {xs : List Sl} (g : Gd xs) {who : Int} (ho : ∃ i, Own xs who i) {a m : Nat} (hm : cnt xs who a = m) : gotT xs who (startOf xs who m + 1) = gotT xs who a + (en xs (startOf xs who m) - startOf xs who m) := by
  have h := start_spec g ho m
  have hle : a ≤ startOf xs who m := by have := start_ge g ho a 0; rw [Nat.add_zero, hm] at this; exact this
  have := gotT_same (a := a) hle (by rw [h.2, hm])
  rw [← this, ← lnF_yes h.1]
  rfl
theorem gotT_mono {xs : List Sl} {who : Int} {a b : Nat} (h : a ≤ b) : gotT xs who a ≤ gotT xs who b := sumF_mono _ h
/-- One more slot at the end. -/
theorem pre_app {xs : List Sl} {s : Sl} {j : Nat} (hj : j ≤ xs.length) : pre (xs ++ [s]) j = pre xs j := by
  unfold pre; rw [List.take_append_of_le_length hj]
theorem cyc_app (xs : List Sl) (s : Sl) : cyc (xs ++ [s]) = cyc xs + s.n := by
  show pre (xs ++ [s]) (xs ++ [s]).length = _
  rw [List.length_append, List.length_singleton, pre_succ (by simp), pre_app (Nat.le_refl _)]
  simp
theorem at_app {xs : List Sl} {s : Sl} (g : Gd xs) (g2 : Gd (xs ++ [s])) {t : Nat} (ht : t ≤ cyc xs) : atO (xs ++ [s]) t = atO xs t ∧ atE (xs ++ [s]) t = atE xs t := by
  rcases Nat.eq_zero_or_pos t with rfl | h0
  · exact ⟨rfl, rfl⟩
  have hc := cyc_pos g
  have e1 : (t - 1) % cyc xs = t - 1 := Nat.mod_eq_of_lt (by omega)
  have e2 : (t - 1) % cyc (xs ++ [s]) = t - 1 := Nat.mod_eq_of_lt (by rw [cyc_app]; omega)
  obtain ⟨i, hi, h1, h2⟩ := ix_ex g (a := t - 1) (by omega)
  obtain ⟨a1, a2⟩ := at_of g h0 hi (by rw [e1]; exact h1) (by rw [e1]; exact h2)
  obtain ⟨b1, b2⟩ := at_of g2 h0 (i := i) (by simp; omega) (by rw [e2, pre_app (by omega)]; exact h1) (by rw [e2, pre_app (by omega)]; exact h2)
  rw [a1, a2, b1, b2, e1, e2, pre_app (by omega)]
  exact ⟨by rw [List.getElem_append_left hi], rfl⟩
theorem at_app_last {xs : List Sl} {s : Sl} (g2 : Gd (xs ++ [s])) {y : Nat} (hy : y < s.n) : atO (xs ++ [s]) (cyc xs + y + 1) = s.owner ∧ atE (xs ++ [s]) (cyc xs + y + 1) = decide (y + 1 = s.n) := by
  have hl : xs.length < (xs ++ [s]).length := by simp
  have hx : (xs ++ [s])[xs.length] = s := by simp
  have h := at_in g2 hl (y := y) (by rw [hx]; exact hy)
  rw [pre_app (Nat.le_refl _), hx, show 1 + (pre xs xs.length + y) = cyc xs + y + 1 by unfold cyc; omega] at h
  exact h
theorem ok_app {xs : List Sl} {tn : Int} (h : Ok xs tn) (hl : xs.length ≤ 63) {s : Sl} (h1 : 0 ≤ s.owner ∧ s.owner < tn) (h2 : 1 ≤ s.len ∧ s.len ≤ 1000) : Ok (xs ++ [s]) tn := by
  refine ⟨by simp, by simp; omega, h.t1, h.t2, fun i hi => ?_, fun t h3 h4 => ?_⟩
  · rcases Nat.lt_or_ge i xs.length with h5 | h5
    · rw [List.getElem_append_left h5]; exact h.own i h5
    · have : i = xs.length := by simp at hi; omega
      subst this
      simp only [List.getElem_concat_length]
      exact ⟨h1.1, h1.2, h2⟩
  · obtain ⟨i, h5, h6⟩ := h.has t h3 h4
    exact ⟨i, by simp; omega, by rw [List.getElem_append_left h5]; exact h6⟩
/-- What PlanKths asks. -/
theorem kths_vals {xs : List Sl} (g : Gd xs) {who : Int} (ho : ∃ i, Own xs who i) {T K U : Nat} (hT : T < 1125899906842624) (hK : 1 ≤ K ∧ K ≤ 1073741824) (hU : U < 1024) :
    ∃ a b c d s e : Nat, kthV xs who T (K : Int) = (a, true) ∧ kthV xs who T ((K + 1 : Nat) : Int) = (b, true) ∧ kthV xs who (T + 1) (K : Int) = (c, true) ∧ kthV xs who T ((K + U * mineN xs who : Nat) : Int) = (d, true) ∧
      nxV xs who T = (s, e, true) ∧ kthV xs who (s + 1) (K : Int) = (b, true) ∧ a < b ∧ a ≤ c ∧ c ≤ b ∧ d = a + U * cyc xs ∧ d < 9223372036854775808 ∧ b < 9223372036854775808 ∧ s < 9223372036854775808 := by
  have hcb := cyc_bd g
  have hm1 := mine_pos ho
  have hm2 := mineN_le xs who
  have hl := g.small
  have hUm : U * mineN xs who ≤ 1024 * 70 := Nat.mul_le_mul (by omega) (by omega)
  have far : ∀ t j, t ≤ 1125899906842625 → j ≤ 1073741824 + 1024 * 70 → startOf xs who (cnt xs who t + j) + 1000 < 9223372036854775808 := by
    intro t j ht hj
    have h1 := start_far g ho t j
    have h2 : (j + 1) * cyc xs ≤ (1073741824 + 1024 * 70 + 1) * 70000 := Nat.mul_le_mul (by omega) hcb
    omega
  have val : ∀ t j (k : Int), t ≤ 1125899906842625 → j ≤ 1073741824 + 1024 * 70 → 1 ≤ k → k.toNat - 1 = j → kthV xs who t k = (en xs (startOf xs who (cnt xs who t + j)), true) := by
    intro t j k ht hj hk hkj
    subst hkj
    exact kth_yes g ho hk rfl (by have := far t _ ht hj; unfold U64; omega)
  have ends : ∀ m, en xs (startOf xs who m) ≤ startOf xs who m + 1000 := fun m => (en_bd g (start_spec g ho m).1).2
  obtain ⟨m0, hm0⟩ : ∃ m0, m0 = cnt xs who T := ⟨_, rfl⟩
  have hN := isNx_start g ho T
  have f0 : startOf xs who (cnt xs who T) + 1000 < 9223372036854775808 := far T 0 (by omega) (by omega)
  have f1 := far T K (by omega) (by omega)
  have f2 := far T (K + U * mineN xs who - 1) (by omega) (by omega)
  have hcs : cnt xs who (startOf xs who m0 + 1) = m0 + 1 := by rw [cnt_after (start_spec g ho m0).1, (start_spec g ho m0).2]
  rw [← hm0] at f0 f1 f2
  refine ⟨en xs (startOf xs who (m0 + (K - 1))), en xs (startOf xs who (m0 + K)), en xs (startOf xs who (cnt xs who (T + 1) + (K - 1))), en xs (startOf xs who (m0 + (K + U * mineN xs who - 1))), startOf xs who m0, en xs (startOf xs who m0), ?_, ?_, ?_, ?_, ?_, ?_, ?_, ?_, ?_, ?_, ?_, ?_, ?_⟩
  · rw [hm0]; exact val T (K - 1) _ (by omega) (by omega) (by omega) (by omega)
  · rw [hm0]; exact val T K _ (by omega) (by omega) (by omega) (by omega)
  · exact val (T + 1) (K - 1) _ (by omega) (by omega) (by omega) (by omega)
  · rw [hm0]; exact val T (K + U * mineN xs who - 1) _ (by omega) (by omega) (by omega) (by omega)
  · exact nx_yes g ho hm0.symm (by unfold U64; omega)
  · refine kth_yes g ho (by omega) (by rw [hcs]; omega) (by unfold U64; omega)
  · exact en_lt g ho (by omega)
  · refine en_mono g ho ?_
    rcases cnt_one (xs := xs) (who := who) T with h | h <;> omega
  · refine en_mono g ho ?_
    rcases cnt_one (xs := xs) (who := who) T with h | h <;> omega
  · rw [show m0 + (K + U * mineN xs who - 1) = m0 + (K - 1) + U * mineN xs who by omega, start_turn g ho, en_period]
  · have := ends (m0 + (K + U * mineN xs who - 1)); omega
  · have := ends (m0 + K); omega
  · omega
end Go.Proofs.Ytnlbcgonegeofaa
