/- The document's answer on plans of slots: what each function computes. No condition. -/
import Derived.Test.YtnlbcgonegeofaaPlN
import Derived.Deep.RegionHeld3
import Derived.BigRegion
namespace Go.Proofs.Ytnlbcgonegeofaa
open Go.RowKit
set_option linter.unusedVariables false
set_option linter.unusedSimpArgs false
set_option maxRecDepth 100000

def Sl.cells (z : Sl) : List Value := [.int .i64 z.owner, .int .i64 z.len]
def Sl.good (z : Sl) : Prop := (Lit.int .i64 z.owner).wf = true ∧ (Lit.int .i64 z.len).wf = true
def Sl.val (z : Sl) : Value := .agg #[.int .i64 z.owner, .int .i64 z.len]
theorem el_Sl {H : Type} {enc : TypeId × Value → H} {w : World} : ∀ n cs x, DataW.trod enc Try.prog w 0 (fun _ => true) true n 46 cs = some x → ∃ z : Sl, cs = z.cells ∧ z.good := by
  intro n cs x h
  have hl := (struct_cells Try.underlying46 h).1
  rw [show Try.prog.cellsOf 46 = 2 by kernel_rfl] at hl
  obtain ⟨v0, v1, rfl⟩ : ∃ v0 v1 : Value, cs = [v0, v1] := by
    match cs, hl with
    | [v0, v1], _ => exact ⟨v0, v1, rfl⟩
  obtain ⟨-, n, f⟩ := struct_cells Try.underlying46 h
  obtain ⟨y_0, h_0⟩ := f 0 _ rfl
  replace h_0 : DataW.trod enc Try.prog w 0 (fun _ => true) true n 3 [v0] = some y_0 := h_0
  obtain ⟨a0, e0, g0⟩ := (el_int Try.underlying3) _ _ _ h_0
  obtain rfl : v0 = .int .i64 a0 := by simpa using e0
  obtain ⟨y_1, h_1⟩ := f 1 _ rfl
  replace h_1 : DataW.trod enc Try.prog w 0 (fun _ => true) true n 3 [v1] = some y_1 := h_1
  obtain ⟨a1, e1, g1⟩ := (el_int Try.underlying3) _ _ _ h_1
  obtain rfl : v1 = .int .i64 a1 := by simpa using e1
  exact ⟨⟨a0, a1⟩, rfl, ⟨g0, g1⟩⟩
/-- Slots that lie in memory. -/
abbrev SlA (w : World) (A : Option Addr) (xs : List Sl) : Prop := RowAt Sl.cells 2 w A xs
theorem SlA.at {w : World} {A : Option Addr} {xs : List Sl} (h : SlA w A xs) {i : Nat} (hi : i < xs.length) : ∃ b off, A = some ⟨b, off, none⟩ ∧ b < w.heap.size ∧ w.cell? ⟨b, off + i * 2, none⟩ = some (.int .i64 xs[i].owner) ∧ w.cell? ⟨b, off + i * 2 + 1, none⟩ = some (.int .i64 xs[i].len) := by
  obtain ⟨b, off, e, hlt, hc⟩ := h i hi
  exact ⟨b, off, e, hlt, hc 0 _ rfl, hc 1 _ rfl⟩
theorem belA {w a : World} (h : Below w.heap.size w a) (o : Obj) : Below w.heap.size w (a.alloc o) := h.alloc h.size o
theorem belD {w a : World} (h : Below w.heap.size w a) : Below w.heap.size w a.drew := ⟨h.os, h.tape, h.output, h.size, h.block⟩
theorem belN {w a : World} (h : Below w.heap.size w a) (n : Nat) : Below w.heap.size w (a.drewN n) := ⟨h.os, h.tape, h.output, h.size, h.block⟩
theorem belT {w a b : World} (h : Below w.heap.size w a) (k : Below a.heap.size a b) : Below w.heap.size w b := h.trans (k.mono h.size)

theorem from_c {w : World} {c : Nat} {A : Option Addr} {xs : List Sl} (g : Gd xs) (hr : SlA w A xs) {k : Nat} (hk : k ≤ xs.length) :
    Calls Try.prog 15 #[.slice A xs.length c, .int .i64 k] w fun e w' => e = .returned (.int .u64 (pre xs k : Nat)) ∧ w = w' := by
  have H := Lib.hid hr
  have G := Lib.hid g
  have hK := Lib.hid hk
  have hl := g.small
  have hb := pre_bd g hk
  clear hr g hk
  go_enter Try.func15, Try.ntmps15
  go_wp2_with fail
  go_loopw [5, 6] (fun nv jj wr => ∃ n j : Nat, nv = .int .u64 n ∧ jj = .int .i64 j ∧ wr = w ∧ Hid (n = pre xs j) ∧ Hid (j ≤ k)) (fun _ jj _ => k - (intOf jj).toNat)
  case atStart => exact ⟨0, 0, rfl, rfl, rfl, Lib.hid (pre_zero xs).symm, Lib.hid (Nat.zero_le _)⟩
  case round =>
    obtain ⟨n, j, rfl, rfl, rfl, hn, hj⟩ := hrel
    have hj2 := hj.out
    by_cases hlt : j < k
    · have hjl : j < xs.length := Nat.lt_of_lt_of_le hlt hK.out
      obtain ⟨b, off, rfl, hbs, c0, c1⟩ := H.out.at hjl
      have hp := pre_succ hjl
      have h3 := G.out.n hjl
      have h4 := pre_bd G.out (Nat.le_of_lt hjl)
      obtain ⟨L, hL⟩ : ∃ L, L = xs[j].len := ⟨_, rfl⟩
      obtain ⟨m, hm⟩ : ∃ m, m = xs[j].n := ⟨_, rfl⟩
      rw [← hL] at c1 h3
      rw [← hm] at h3 hp
      have e1 : IntKind.u64.wrap L = L := wrapU (by omega)
      have e2 : IntKind.u64.wrap ((n : Int) + L) = ((n + m : Nat) : Int) := by rw [wrapU (by rw [hn.out]; omega)]; omega
      have d1 : decide ((j : Int) < (k : Int)) = true ∧ decide (j < k) = true := ⟨decide_eq_true (by omega), decide_eq_true hlt⟩
      obtain ⟨d1, d2⟩ := d1
      have hn2 := Lib.hid (show n + m = pre xs (j + 1) by rw [hn.out]; omega)
      replace h3 := Lib.hid h3
      clear hp hm hL hn c0 h4 hb
      go_wp2
      go_roundw
      case rel => exact ⟨n + m, j + 1, rfl, by go_num, by first | trivial | rfl, hn2, Lib.hid (by omega)⟩
      case measure => simp [intOf]; omega
    · have d1 : decide ((j : Int) < (k : Int)) = false ∧ decide (j < k) = false := ⟨decide_eq_false (by omega), decide_eq_false hlt⟩
      obtain ⟨d1, d2⟩ := d1
      have hn2 := Lib.hid (show n = pre xs k by rw [hn.out]; congr 1; omega)
      clear hn
      go_wp2
      go_ret
      exact ⟨by rw [← hn2.out]; rfl, rfl⟩
end Go.Proofs.Ytnlbcgonegeofaa
