/- The law's look whether all entries are right. -/
import Derived.Test.YtamnibfaoikdbaaRt2
namespace Go.Proofs.Ytamnibfaoikdbaa
open Go.RowKit
set_option linter.unusedVariables false
set_option linter.unusedSimpArgs false
set_option maxRecDepth 100000

set_option maxHeartbeats 1000000 in
theorem right18_c {w : World} {A : Option Addr} {c : Nat} {xs : List En} (hr : RowAt En.cells 9 w A xs) (hl : xs.length ≤ 10000000000000) :
    Calls Try.prog 22 #[.slice A xs.length c] w fun r w' => r = .returned (.bool (decide (xs.length ≤ 60) && xs.all rightE)) ∧ Below w.heap.size w w' := by
  by_cases h60 : xs.length ≤ 60
  · have e1 : decide ((60 : Int) < (xs.length : Int)) = false := by simp; omega
    rw [decide_eq_true h60, Bool.true_and]
    have HR := Lib.hid hr
    replace h60 := Lib.hid h60
    clear hr
    go_enter Try.func22, Try.ntmps22
    go_wp2_with fail
    go_loopw [10] (fun ii wr => ∃ i : Nat, ii = .int .i64 i ∧ Hid (i ≤ xs.length) ∧ Hid (∀ j (h : j < xs.length), j < i → rightE xs[j] = true) ∧ Hid (Below w.heap.size w wr)) (fun ii _ => xs.length - (intOf ii).toNat)
    case atStart => exact ⟨0, rfl, Lib.hid (Nat.zero_le _), Lib.hid fun j _ h => absurd h (by omega), Lib.hid (Below.refl _ _)⟩
    case round =>
      obtain ⟨i, rfl, hi, hA, hB⟩ := hrel
      by_cases hlt : i < xs.length
      · obtain ⟨b, off, rfl, hbl, c0, c1, c2, c3, c4, c5, c6, c7, c8⟩ := HR.out.en hlt
        rw [← hB.out.cell (p := ⟨b, _, none⟩) hbl] at c0 c1 c2 c3 c4 c5 c6 c7 c8
        obtain ⟨e, he⟩ : ∃ e, e = xs[i] := ⟨_, rfl⟩
        rw [← he] at c0 c1 c2 c3 c4 c5 c6 c7 c8
        replace he := Lib.hid he
        go_wp2_with fail
        refine (right15_c _ e).mono ?_
        rintro r w1 ⟨rfl, hB1⟩
        have hB2 := Lib.hid ((Below.alloc hB.out hB.out.size _).trans (hB1.mono (by have := hB.out.size; simp; omega)))
        clear hB1 hB c0 c1 c2 c3 c4 c5 c6 c7 c8
        cases hc : rightE e
        · have hall : xs.all rightE = false := by
            rw [List.all_eq_false]
            exact ⟨xs[i], List.getElem_mem hlt, by rw [← he.out, hc]; simp⟩
          replace hc := Lib.hid hc; replace hall := Lib.hid hall
          go_wp2
          go_ret
          exact ⟨by rw [hall.out]; rfl, hB2.out⟩
        · replace hc := Lib.hid hc
          go_wp2
          refine ⟨⟨i + 1, by go_num, Lib.hid (by omega), Lib.hid fun j hj hji => ?_, hB2⟩, by simp [intOf]; omega⟩
          rcases Nat.lt_or_ge j i with h | h
          · exact hA.out j hj h
          · obtain rfl : j = i := by omega
            rw [← he.out]; exact hc.out
      · have hall : xs.all rightE = true := by
          rw [List.all_eq_true]
          intro x hx
          obtain ⟨j, hj, rfl⟩ := List.getElem_of_mem hx
          exact hA.out j hj (by omega)
        replace hall := Lib.hid hall
        go_wp2
        go_ret
        exact ⟨by rw [hall.out]; rfl, hB.out⟩
  · have e1 : decide ((60 : Int) < (xs.length : Int)) = true := by simp; omega
    rw [decide_eq_false h60]
    replace h60 := Lib.hid h60
    go_enter Try.func22, Try.ntmps22
    go_wp2
    go_ret
    exact ⟨by simp, Below.refl _ _⟩
end Go.Proofs.Ytamnibfaoikdbaa
