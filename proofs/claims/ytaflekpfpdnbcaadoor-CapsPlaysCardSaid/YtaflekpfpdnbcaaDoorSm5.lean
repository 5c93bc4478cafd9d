/- nightjarref05.Same. -/
import Derived.Test.YtaflekpfpdnbcaaDoorLv
import Derived.Test.YtaflekpfpdnbcaaDoorOwn
import Derived.BigQuiet
import Derived.Deep.QuietTactic
namespace Go.Proofs.YtaflekpfpdnbcaaDoor
open Go.RowKit
set_option linter.unusedVariables false
set_option linter.unusedSimpArgs false
set_option maxRecDepth 100000

theorem _root_.Go.RowKit.Below.drewN {B : Nat} {a w : World} (h : Below B a w) (n : Nat) : Below B a (w.drewN n) := ⟨h.os, h.tape, h.output, h.size, h.block⟩
theorem RowAt.getU {xs : List Int} {w : World} {A : Option Addr} (h : RowAt uE.f 1 w A xs) {i : Nat} (hi : i < xs.length) : ∃ b off, A = some ⟨b, off, none⟩ ∧ w.cell? ⟨b, off + i, none⟩ = some (.int .u64 (xs.getD i 0)) := by
  obtain ⟨b, off, e, _, hc⟩ := h i hi
  refine ⟨b, off, e, ?_⟩
  have := hc 0 (.int .u64 xs[i]) rfl
  simpa [hi] using this
set_option maxHeartbeats 1000000 in
/-- Two rows of the same numbers are the same. -/
theorem same5_c {w : World} {A B : Option Addr} {ca cb : Nat} {xs : List Int} {n m : Nat} (hx : RowAt uE.f 1 w A xs) (hy : RowAt uE.f 1 w B xs) (hm : xs.length ≤ 1000000) (hn : n = xs.length) (hm2 : m = xs.length) :
    Calls Tryd.prog 25 #[.slice A n ca, .slice B m cb] w fun e w' => e = .returned (.bool true) ∧ Below w.heap.size w w' := by
  subst hm2
  subst hn
  have Hx := Lib.hid hx; have Hy := Lib.hid hy
  obtain ⟨n, hn⟩ : ∃ n, n = xs.length := ⟨_, rfl⟩
  rw [← hn] at hm ⊢
  replace hn := Lib.hid hn
  have e1 : ((n : Int) != (n : Int)) = false := by simp
  have B0 := Lib.hid (Below.refl w.heap.size w)
  clear hx hy
  go_enter Tryd.func25, Tryd.ntmps25
  go_wp2_with fail
  go_loopw [5] (fun k wr => ∃ i : Nat, k = .int .i64 i ∧ Hid (i ≤ n) ∧ Hid (Below w.heap.size w wr)) (fun k wr => n - (intOf k).toNat)
  case atStart => exact ⟨0, rfl, Lib.hid (Nat.zero_le _), B0⟩
  case round =>
    clear B0
    obtain ⟨i, rfl, hi, h3⟩ := hrel
    by_cases hlt : i < n
    · obtain ⟨b1, o1, rfl, c1⟩ := Hx.out.getU (i := i) (by rw [← hn.out]; exact hlt)
      obtain ⟨b2, o2, rfl, c2⟩ := Hy.out.getU (i := i) (by rw [← hn.out]; exact hlt)
      have f1 := (h3.out.cell (by exact World.block_lt_of_cell? w _ c1)).trans c1
      have f2 := (h3.out.cell (by exact World.block_lt_of_cell? w _ c2)).trans c2
      generalize xs.getD i 0 = v at *
      have e2 : (v != v) = false := by simp
      have hlH := Lib.hid hlt
      have hib : i < 1000001 := by omega
      clear c1 c2
      go_wp2
      go_quiet (fail)
      go_wp2
      refine ⟨⟨i + 1, by simp, Lib.hid hlt, Lib.hid (h3.out.drewN _)⟩, ?_⟩
      have := hlH.out; simp [intOf]; omega
    · obtain rfl : n = i := by have := hi.out; omega
      clear hlt
      go_wp2
      go_ret
      exact ⟨rfl, h3.out⟩
end Go.Proofs.YtaflekpfpdnbcaaDoor
