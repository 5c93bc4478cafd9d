/- Steps on polls as they come in. No condition. -/
import Derived.Test.YtblapbnplflghaaRow
import Derived.Test.YtblapbnplflghaaProg
namespace Go.Proofs.Ytblapbnplflghaa
open Go.RowKit
set_option linter.unusedVariables false
set_option linter.unusedSimpArgs false
set_option maxRecDepth 100000

structure Op13 where
  kind : Int
  dev : Int
  mask : Int
  handle : Int
  mode : Int
deriving DecidableEq, Inhabited
def Op13.cells (z : Op13) : List Value := [.int .i64 z.kind, .int .i64 z.dev, .int .i64 z.mask, .int .u64 z.handle, .int .i64 z.mode]
def Op13.good (z : Op13) : Prop := (Lit.int .i64 z.kind).wf = true ∧ (Lit.int .i64 z.dev).wf = true ∧ (Lit.int .i64 z.mask).wf = true ∧ (Lit.int .u64 z.handle).wf = true ∧ (Lit.int .i64 z.mode).wf = true
def Op13.val (z : Op13) : Value := .agg #[.int .i64 z.kind, .int .i64 z.dev, .int .i64 z.mask, .int .u64 z.handle, .int .i64 z.mode]
theorem el_Op13 {H : Type} {enc : TypeId × Value → H} {w : World} : ∀ n cs x, DataW.trod enc Try.prog w 0 (fun _ => true) true n 32 cs = some x → ∃ z : Op13, cs = z.cells ∧ z.good := by
  intro n cs x h
  have hl := (struct_cells Try.underlying32 h).1
  rw [show Try.prog.cellsOf 32 = 5 by kernel_rfl] at hl
  obtain ⟨v0, v1, v2, v3, v4, rfl⟩ : ∃ v0 v1 v2 v3 v4 : Value, cs = [v0, v1, v2, v3, v4] := by
    match cs, hl with
    | [v0, v1, v2, v3, v4], _ => exact ⟨v0, v1, v2, v3, v4, rfl⟩
  obtain ⟨-, n, f⟩ := struct_cells Try.underlying32 h
  obtain ⟨y_0, h_0⟩ := f 0 _ rfl
  replace h_0 : DataW.trod enc Try.prog w 0 (fun _ => true) true n 3 [v0] = some y_0 := h_0
  obtain ⟨a0, e0, g0⟩ := (el_int Try.underlying3) _ _ _ h_0
  obtain rfl : v0 = .int .i64 a0 := by simpa using e0
  obtain ⟨y_1, h_1⟩ := f 1 _ rfl
  replace h_1 : DataW.trod enc Try.prog w 0 (fun _ => true) true n 3 [v1] = some y_1 := h_1
  obtain ⟨a1, e1, g1⟩ := (el_int Try.underlying3) _ _ _ h_1
  obtain rfl : v1 = .int .i64 a1 := by simpa using e1
  obtain ⟨y_2, h_2⟩ := f 2 _ rfl
  replace h_2 : DataW.trod enc Try.prog w 0 (fun _ => true) true n 3 [v2] = some y_2 := h_2
  obtain ⟨a2, e2, g2⟩ := (el_int Try.underlying3) _ _ _ h_2
  obtain rfl : v2 = .int .i64 a2 := by simpa using e2
  obtain ⟨y_3, h_3⟩ := f 3 _ rfl
  replace h_3 : DataW.trod enc Try.prog w 0 (fun _ => true) true n 30 [v3] = some y_3 := h_3
  obtain ⟨a3, e3, g3⟩ := (el_int Try.underlying30) _ _ _ h_3
  obtain rfl : v3 = .int .u64 a3 := by simpa using e3
  obtain ⟨y_4, h_4⟩ := f 4 _ rfl
  replace h_4 : DataW.trod enc Try.prog w 0 (fun _ => true) true n 3 [v4] = some y_4 := h_4
  obtain ⟨a4, e4, g4⟩ := (el_int Try.underlying3) _ _ _ h_4
  obtain rfl : v4 = .int .i64 a4 := by simpa using e4
  exact ⟨⟨a0, a1, a2, a3, a4⟩, rfl, ⟨g0, g1, g2, g3, g4⟩⟩
theorem RowAt.op13 {w : World} {A : Option Addr} {xs : List Op13} (h : RowAt Op13.cells 5 w A xs) {i : Nat} (hi : i < xs.length) : ∃ b off, A = some ⟨b, off, none⟩ ∧ b < w.heap.size ∧ w.cell? ⟨b, off + i * 5, none⟩ = some (.int .i64 xs[i].kind) ∧ w.cell? ⟨b, off + i * 5 + 1, none⟩ = some (.int .i64 xs[i].dev) ∧ w.cell? ⟨b, off + i * 5 + 2, none⟩ = some (.int .i64 xs[i].mask) ∧ w.cell? ⟨b, off + i * 5 + 3, none⟩ = some (.int .u64 xs[i].handle) ∧ w.cell? ⟨b, off + i * 5 + 4, none⟩ = some (.int .i64 xs[i].mode) := by
  obtain ⟨b, off, e, hlt, hc⟩ := h i hi
  exact ⟨b, off, e, hlt, hc 0 _ rfl, hc 1 _ rfl, hc 2 _ rfl, hc 3 _ rfl, hc 4 _ rfl⟩
end Go.Proofs.Ytblapbnplflghaa
