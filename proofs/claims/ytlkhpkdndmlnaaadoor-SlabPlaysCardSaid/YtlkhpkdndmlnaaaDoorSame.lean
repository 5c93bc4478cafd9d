/- nightjarref03.Same. -/
import Derived.Test.YtlkhpkdndmlnaaaDoorOwn
import Derived.Deep.LoopGhost
import Derived.BigQuiet
import Derived.Deep.QuietTactic
namespace Go.Proofs.YtlkhpkdndmlnaaaDoor
open Go.RowKit
set_option linter.unusedVariables false
set_option linter.unusedSimpArgs false
set_option maxRecDepth 100000

theorem RowAt.get {xs : List Int} {w : World} {A : Option Addr} (h : RowAt intCells 1 w A xs) {i : Nat} (hi : i < xs.length) : ∃ b off, A = some ⟨b, off, none⟩ ∧ w.cell? ⟨b, off + i, none⟩ = some (.int .i64 (xs.getD i 0)) := by
  obtain ⟨b, off, e, _, hc⟩ := h i hi
  refine ⟨b, off, e, ?_⟩
  have := hc 0 (.int .i64 xs[i]) rfl
  simpa [hi] using this

theorem _root_.Go.RowKit.Below.drewN {B : Nat} {a w : World} (h : Below B a w) (n : Nat) : Below B a (w.drewN n) := ⟨h.os, h.tape, h.output, h.size, h.block⟩

theorem same_step {xs ys : List Int} (hl : xs.length = ys.length) {n : Nat} (hp : ∀ j, j < n → xs.getD j 0 = ys.getD j 0) (hn : xs.length ≤ n) : xs = ys := by
  apply List.ext_getElem hl
  intro i h1 h2
  have := hp i (by omega)
  simpa [h1, h2] using this

set_option maxRecDepth 100000 in
set_option maxHeartbeats 1000000 in
theorem same_c {w : World} {A B : Option Addr} {ca cb : Nat} {xs ys : List Int} (hx : RowAt intCells 1 w A xs) (hy : RowAt intCells 1 w B ys) (hm : xs.length ≤ 1000000000000) (hm2 : ys.length ≤ 1000000000000) :
    Calls Tryd.prog 23 #[.slice A xs.length ca, .slice B ys.length cb] w fun e w' => e = .returned (.bool (decide (xs = ys))) ∧ Below w.heap.size w w' := by
  by_cases hl : xs.length = ys.length
  · have Hx := Lib.hid hx; have Hy := Lib.hid hy; have Hl := Lib.hid hl; have Hm := Lib.hid hm
    have e1 : ((xs.length : Int) != (ys.length : Int)) = false := by simp [hl]
    clear hx hy hl hm2
    go_enter Tryd.func23, Tryd.ntmps23
    go_wp2
    go_loopw [5] (fun k wr => ∃ n : Nat, k = .int .i64 n ∧ Hid (n ≤ xs.length) ∧ Hid (∀ j, j < n → xs.getD j 0 = ys.getD j 0) ∧ Hid (Below w.heap.size w wr)) (fun k wr => xs.length - (intOf k).toNat)
    case atStart => exact ⟨0, rfl, Nat.zero_le _, fun j hj => absurd hj (by omega), Below.refl _ _⟩
    case round =>
      obtain ⟨n, rfl, h1, h2, h3⟩ := hrel
      by_cases hn : n < xs.length
      · obtain ⟨b, o, rfl, hc⟩ := RowAt.get Hx.out hn
        obtain ⟨b', o', rfl, hc'⟩ := RowAt.get Hy.out (by rw [← Hl.out]; exact hn)
        have f1 : wr.cell? ⟨b, o + n, none⟩ = some (.int .i64 (xs.getD n 0)) := (h3.out.cell (by exact World.block_lt_of_cell? w _ hc)).trans hc
        have f2 : wr.cell? ⟨b', o' + n, none⟩ = some (.int .i64 (ys.getD n 0)) := (h3.out.cell (by exact World.block_lt_of_cell? w _ hc')).trans hc'
        have hn2 : n < ys.length := by rw [← Hl.out]; exact hn
        obtain ⟨zx, hzx⟩ : ∃ z, z = xs.getD n 0 := ⟨_, rfl⟩
        obtain ⟨zy, hzy⟩ : ∃ z, z = ys.getD n 0 := ⟨_, rfl⟩
        rw [← hzx] at f1
        rw [← hzy] at f2
        have ZX := Lib.hid hzx; have ZY := Lib.hid hzy
        clear hzx hzy
        by_cases he : zx = zy
        · have e2 : (zx != zy) = false := by simp only [he, bne_self_eq_false]
          have HE := Lib.hid he
          clear he hc hc'
          go_wp2
          go_quiet (fail)
          go_wp2
          refine ⟨⟨n + 1, by simp, Lib.hid (by omega), Lib.hid fun j hj => ?_, Lib.hid (h3.out.drewN _)⟩, ?_⟩
          · rcases Nat.lt_or_ge j n with h | h
            · exact h2.out j h
            · obtain rfl : j = n := by omega
              rw [← ZX.out, ← ZY.out]; exact HE.out
          · simp [intOf]; omega
        · have e2 : (zx != zy) = true := by rw [bne_iff_ne]; exact he
          have hd : decide (xs = ys) = false := decide_eq_false (fun e => he (by rw [ZX.out, ZY.out, e]))
          have HD := Lib.hid hd
          clear he hc hc' hd
          go_wp2
          go_quiet (fail)
          go_wp2
          go_ret
          exact ⟨by rw [HD.out]; rfl, h3.out.drewN _⟩
      · have hd : decide (xs = ys) = true := decide_eq_true (same_step Hl.out h2.out (by omega))
        have HD := Lib.hid hd
        clear hd
        go_wp2
        go_ret
        exact ⟨by rw [HD.out]; rfl, h3.out⟩
  · have hd : decide (xs = ys) = false := decide_eq_false (fun e => hl (by rw [e]))
    rw [hd]
    have e1 : ((xs.length : Int) != (ys.length : Int)) = true := by rw [bne_iff_ne]; omega
    clear hx hy hl hd
    go_enter Tryd.func23, Tryd.ntmps23
    go_wp2
    go_ret
    exact ⟨rfl, Below.refl _ _⟩
end Go.Proofs.YtlkhpkdndmlnaaaDoor
