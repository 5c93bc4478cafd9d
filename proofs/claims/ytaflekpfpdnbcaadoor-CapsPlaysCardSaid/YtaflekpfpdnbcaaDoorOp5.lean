/- Steps on handles as they come in. No condition. -/
import Derived.Test.YtaflekpfpdnbcaaDoorRow
import Derived.Test.YtaflekpfpdnbcaaDoorProg
namespace Go.Proofs.YtaflekpfpdnbcaaDoor
open Go.RowKit
set_option linter.unusedVariables false
set_option linter.unusedSimpArgs false
set_option maxRecDepth 100000

structure Op5 where
  kind : Int
  n : Int
  cap_Kind : Int
  cap_Index : Int
  cap_Rights : Int
  h : Int
deriving DecidableEq, Inhabited
def Op5.cells (z : Op5) : List Value := [.int .i64 z.kind, .int .i64 z.n, .int .i64 z.cap_Kind, .int .i64 z.cap_Index, .int .i64 z.cap_Rights, .int .u64 z.h]
def Op5.good (z : Op5) : Prop := (Lit.int .i64 z.kind).wf = true ∧ (Lit.int .i64 z.n).wf = true ∧ (Lit.int .i64 z.cap_Kind).wf = true ∧ (Lit.int .i64 z.cap_Index).wf = true ∧ (Lit.int .i64 z.cap_Rights).wf = true ∧ (Lit.int .u64 z.h).wf = true
def Op5.val (z : Op5) : Value := .agg #[.int .i64 z.kind, .int .i64 z.n, .agg #[.int .i64 z.cap_Kind, .int .i64 z.cap_Index, .int .i64 z.cap_Rights], .int .u64 z.h]
theorem el_Op5 {H : Type} {enc : TypeId × Value → H} {w : World} : ∀ n cs x, DataW.trod enc Tryd.prog w 0 (fun _ => true) true n 32 cs = some x → ∃ z : Op5, cs = z.cells ∧ z.good := by
  intro n cs x h
  have hl := (struct_cells Tryd.underlying32 h).1
  rw [show Tryd.prog.cellsOf 32 = 6 by kernel_rfl] at hl
  obtain ⟨v0, v1, v2, v3, v4, v5, rfl⟩ : ∃ v0 v1 v2 v3 v4 v5 : Value, cs = [v0, v1, v2, v3, v4, v5] := by
    match cs, hl with
    | [v0, v1, v2, v3, v4, v5], _ => exact ⟨v0, v1, v2, v3, v4, v5, rfl⟩
  obtain ⟨-, n, f⟩ := struct_cells Tryd.underlying32 h
  obtain ⟨y_0, h_0⟩ := f 0 _ rfl
  replace h_0 : DataW.trod enc Tryd.prog w 0 (fun _ => true) true n 3 [v0] = some y_0 := h_0
  obtain ⟨a0, e0, g0⟩ := (el_int Tryd.underlying3) _ _ _ h_0
  obtain rfl : v0 = .int .i64 a0 := by simpa using e0
  obtain ⟨y_1, h_1⟩ := f 1 _ rfl
  replace h_1 : DataW.trod enc Tryd.prog w 0 (fun _ => true) true n 3 [v1] = some y_1 := h_1
  obtain ⟨a1, e1, g1⟩ := (el_int Tryd.underlying3) _ _ _ h_1
  obtain rfl : v1 = .int .i64 a1 := by simpa using e1
  obtain ⟨y_2, h_2⟩ := f 2 _ rfl
  replace h_2 : DataW.trod enc Tryd.prog w 0 (fun _ => true) true n 30 [v2, v3, v4] = some y_2 := h_2
  obtain ⟨-, n_2, f_2⟩ := struct_cells Tryd.underlying30 h_2
  obtain ⟨y_2_0, h_2_0⟩ := f_2 0 _ rfl
  replace h_2_0 : DataW.trod enc Tryd.prog w 0 (fun _ => true) true n_2 3 [v2] = some y_2_0 := h_2_0
  obtain ⟨a2, e2, g2⟩ := (el_int Tryd.underlying3) _ _ _ h_2_0
  obtain rfl : v2 = .int .i64 a2 := by simpa using e2
  obtain ⟨y_2_1, h_2_1⟩ := f_2 1 _ rfl
  replace h_2_1 : DataW.trod enc Tryd.prog w 0 (fun _ => true) true n_2 3 [v3] = some y_2_1 := h_2_1
  obtain ⟨a3, e3, g3⟩ := (el_int Tryd.underlying3) _ _ _ h_2_1
  obtain rfl : v3 = .int .i64 a3 := by simpa using e3
  obtain ⟨y_2_2, h_2_2⟩ := f_2 2 _ rfl
  replace h_2_2 : DataW.trod enc Tryd.prog w 0 (fun _ => true) true n_2 3 [v4] = some y_2_2 := h_2_2
  obtain ⟨a4, e4, g4⟩ := (el_int Tryd.underlying3) _ _ _ h_2_2
  obtain rfl : v4 = .int .i64 a4 := by simpa using e4
  obtain ⟨y_3, h_3⟩ := f 3 _ rfl
  replace h_3 : DataW.trod enc Tryd.prog w 0 (fun _ => true) true n 23 [v5] = some y_3 := h_3
  obtain ⟨a5, e5, g5⟩ := (el_int Tryd.underlying23) _ _ _ h_3
  obtain rfl : v5 = .int .u64 a5 := by simpa using e5
  exact ⟨⟨a0, a1, a2, a3, a4, a5⟩, rfl, ⟨g0, g1, g2, g3, g4, g5⟩⟩

theorem RowAt.op5 {w : World} {A : Option Addr} {xs : List Op5} (h : RowAt Op5.cells 6 w A xs) {i : Nat} (hi : i < xs.length) : ∃ b off, A = some ⟨b, off, none⟩ ∧ b < w.heap.size ∧ w.cell? ⟨b, off + i * 6, none⟩ = some (.int .i64 xs[i].kind) ∧ w.cell? ⟨b, off + i * 6 + 1, none⟩ = some (.int .i64 xs[i].n) ∧ w.cell? ⟨b, off + i * 6 + 2, none⟩ = some (.int .i64 xs[i].cap_Kind) ∧ w.cell? ⟨b, off + i * 6 + 3, none⟩ = some (.int .i64 xs[i].cap_Index) ∧ w.cell? ⟨b, off + i * 6 + 4, none⟩ = some (.int .i64 xs[i].cap_Rights) ∧ w.cell? ⟨b, off + i * 6 + 5, none⟩ = some (.int .u64 xs[i].h) := by
  obtain ⟨b, off, e, hlt, hc⟩ := h i hi
  exact ⟨b, off, e, hlt, hc 0 _ rfl, hc 1 _ rfl, hc 2 _ rfl, hc 3 _ rfl, hc 4 _ rfl, hc 5 _ rfl⟩
end Go.Proofs.YtaflekpfpdnbcaaDoor
