/- The document's lists: held, On. -/
import Derived.Test.YtdgcppglpmlgkaaRowsII
import Derived.Test.YtdgcppglpmlgkaaChainI
namespace Go.Proofs.Ytdgcppglpmlgkaa
open Go.RowKit
set_option linter.unusedVariables false
set_option linter.unusedSimpArgs false

theorem held_c (w : World) (a : Int) : Calls Try.prog 51 #[.int .i64 a] w fun e w' => e = .returned (.int .i64 (capI a)) ∧ w = w' := by
  by_cases h0 : a < 0
  · have hv : capI a = 0 := by unfold capI; omega
    rw [hv]
    go_enter Try.func51, Try.ntmps51
    go_wp2
    go_ret
    exact ⟨rfl, rfl⟩
  · by_cases h1 : 4096 < a
    · have hv : capI a = 4096 := by unfold capI; omega
      rw [hv]
      go_enter Try.func51, Try.ntmps51
      go_wp2
      go_ret
      exact ⟨rfl, rfl⟩
    · have hv : capI a = a := by unfold capI; omega
      rw [hv]
      go_enter Try.func51, Try.ntmps51
      go_wp2
      go_ret
      exact ⟨rfl, rfl⟩

def OnSpec (rs : List (List Int)) (k v : Int) : Prop := (∃ i : Nat, ∃ h : i < rs.length, v = i ∧ k ∈ rs[i]) ∨ (v = -1 ∧ ∀ r ∈ rs, k ∉ r)

set_option maxRecDepth 100000 in
set_option maxHeartbeats 2000000 in
theorem on4_c {av : Nat → Prop} {w : World} {A : Option Addr} {rs : List (List Int)} {n : Int} {m c : Nat} (hr : RowsAt av w A rs) (hm : m = rs.length) (hl : rs.length ≤ 1000000) (hll : ∀ r ∈ rs, r.length ≤ 1000000) (k : Int) :
    Calls Try.prog 52 #[.agg #[.int .i64 n, .slice A m c], .int .i64 k] w fun e w' => ∃ v, e = .returned (.int .i64 v) ∧ OnSpec rs k v ∧ Below w.heap.size w w' := by
  subst hm
  have h1 := (Cel.new w #[.int .i64 n, .slice A rs.length c] 61 1 _ rfl).1
  have hb := Lib.hid (Below.alloc (Below.refl w.heap.size w) (Nat.le_refl _) (.cells #[.int .i64 n, .slice A rs.length c] 61))
  have HR := Lib.hid (hr.below hb.out)
  have HL := Lib.hid hll
  clear hr hll
  go_enter Try.func52, Try.ntmps52
  go_wp2_with fail
  generalize w.alloc (.cells #[.int .i64 n, .slice A rs.length c] 61) = w1 at *
  generalize hB : w.heap.size = B at *
  replace hB := Lib.hid hB
  go_loopw [5] (fun ii wr => ∃ i : Nat, ii = .int .i64 i ∧ wr = w1 ∧ Hid (i ≤ rs.length) ∧ Hid (∀ a (h : a < rs.length), a < i → k ∉ rs[a])) (fun ii _ => rs.length - (intOf ii).toNat)
  case atStart => exact ⟨0, rfl, rfl, Lib.hid (Nat.zero_le _), Lib.hid fun a _ h => absurd h (by omega)⟩
  case round =>
    obtain ⟨i, rfl, rfl, hi, hno⟩ := hrel
    by_cases hlt : i < rs.length
    · obtain ⟨b, off, Bi, ci, rfl, hbl, hc, hrow, _⟩ := HR.out i hlt
      have hlen := HL.out rs[i] (List.getElem_mem hlt)
      have hrow' := Lib.hid hrow
      have hlt' := hlt
      obtain ⟨row, hrw⟩ : ∃ row, row = rs[i] := ⟨_, rfl⟩
      rw [← hrw] at hrow' hc hlen
      replace hrw := Lib.hid hrw
      clear hrow
      go_wp2_with fail
      go_loopw [6] (fun jj wr2 => ∃ j : Nat, jj = .int .i64 j ∧ wr2 = wr ∧ Hid (j ≤ row.length) ∧ Hid (∀ a, a < j → row.getD a 0 ≠ k)) (fun jj _ => row.length - (intOf jj).toNat)
      case atStart => exact ⟨0, rfl, rfl, Lib.hid (Nat.zero_le _), Lib.hid fun a h => absurd h (by omega)⟩
      case round =>
        obtain ⟨j, rfl, rfl, hj, hnj⟩ := hrel
        by_cases hjl : j < row.length
        · obtain ⟨b2, off2, rfl, hc2⟩ := RowAt.get hrow'.out hjl
          have hmem : row.getD j 0 ∈ row := by simp [hjl]
          replace hmem := Lib.hid hmem
          obtain ⟨z, hz⟩ : ∃ z, z = row.getD j 0 := ⟨_, rfl⟩
          rw [← hz] at hc2 hmem
          replace hz := Lib.hid hz
          by_cases he : z = k
          · have e1 : (z == k) = true := beq_iff_eq.mpr he
            have hmk : k ∈ row := by rw [← he]; exact hmem.out
            replace hmk := Lib.hid hmk
            replace he := Lib.hid he
            go_wp2
            go_ret
            refine ⟨_, rfl, .inl ⟨i, hlt', rfl, ?_⟩, by rw [hB.out]; exact hb.out⟩
            have := hmk.out
            rw [hrw.out] at this
            exact this
          · have e1 : (z == k) = false := beq_eq_false_iff_ne.mpr he
            replace he := Lib.hid he
            go_wp2
            go_roundw
            case rel =>
              refine ⟨j + 1, by go_num, by first | trivial | rfl, Lib.hid (by omega), Lib.hid fun a ha => ?_⟩
              rcases Nat.lt_or_ge a j with h | h
              · exact hnj.out a h
              · obtain rfl : a = j := by omega
                rw [← hz.out]; exact he.out
            case measure => simp [intOf]; omega
        · have hall : k ∉ row := by
            intro hm
            obtain ⟨a, ha, e⟩ := List.getElem_of_mem hm
            have hj2 := hj.out
            exact hnj.out a (by omega) (by simpa [ha] using e)
          replace hall := Lib.hid hall
          clear hnj hj
          go_wp2
          refine ⟨⟨i + 1, by go_num, by first | trivial | rfl, Lib.hid (by omega), Lib.hid fun a ha hlt2 => ?_⟩, by simp [intOf]; omega⟩
          rcases Nat.lt_or_ge a i with h | h
          · exact hno.out a ha h
          · obtain rfl : a = i := by omega
            rw [← hrw.out]; exact hall.out
    · have hall : ∀ r ∈ rs, k ∉ r := by
        intro r hm
        obtain ⟨a, ha, rfl⟩ := List.getElem_of_mem hm
        exact hno.out a ha (by omega)
      replace hall := Lib.hid hall
      clear hi hno
      go_wp2
      go_ret
      exact ⟨_, rfl, .inr ⟨rfl, hall.out⟩, by rw [hB.out]; exact hb.out⟩
end Go.Proofs.Ytdgcppglpmlgkaa
