/- Steps on slabs as they come in. No condition. -/
import Derived.Test.YtlkhpkdndmlnaaaDoorRow
import Derived.Test.YtlkhpkdndmlnaaaDoorProg
namespace Go.Proofs.YtlkhpkdndmlnaaaDoor
open Go.RowKit
set_option linter.unusedVariables false
set_option linter.unusedSimpArgs false

structure Op3 where
  r : Int
  kind : Int
  k : Int
  val : Int
deriving Inhabited
def Op3.cells (z : Op3) : List Value := [.int .i64 z.r, .int .i64 z.kind, .int .i64 z.k, .int .i64 z.val]
def Op3.good (z : Op3) : Prop := (Lit.int .i64 z.r).wf = true ∧ (Lit.int .i64 z.kind).wf = true ∧ (Lit.int .i64 z.k).wf = true ∧ (Lit.int .i64 z.val).wf = true
theorem el_Op3 {H : Type} {enc : TypeId × Value → H} {w : World} : ∀ n cs x, DataW.trod enc Tryd.prog w 0 (fun _ => true) true n 49 cs = some x → ∃ z : Op3, cs = z.cells ∧ z.good := by
  intro n cs x h
  have hl := (struct_cells Tryd.underlying49 h).1
  rw [show Tryd.prog.cellsOf 49 = 4 by kernel_rfl] at hl
  obtain ⟨v0, v1, v2, v3, rfl⟩ : ∃ v0 v1 v2 v3 : Value, cs = [v0, v1, v2, v3] := by
    match cs, hl with
    | [v0, v1, v2, v3], _ => exact ⟨v0, v1, v2, v3, rfl⟩
  obtain ⟨-, n, f⟩ := struct_cells Tryd.underlying49 h
  obtain ⟨y_0, h_0⟩ := f 0 _ rfl
  replace h_0 : DataW.trod enc Tryd.prog w 0 (fun _ => true) true n 3 [v0] = some y_0 := h_0
  obtain ⟨a0, e0, g0⟩ := (el_int Tryd.underlying3) _ _ _ h_0
  obtain rfl : v0 = .int .i64 a0 := by simpa using e0
  obtain ⟨y_1, h_1⟩ := f 1 _ rfl
  replace h_1 : DataW.trod enc Tryd.prog w 0 (fun _ => true) true n 3 [v1] = some y_1 := h_1
  obtain ⟨a1, e1, g1⟩ := (el_int Tryd.underlying3) _ _ _ h_1
  obtain rfl : v1 = .int .i64 a1 := by simpa using e1
  obtain ⟨y_2, h_2⟩ := f 2 _ rfl
  replace h_2 : DataW.trod enc Tryd.prog w 0 (fun _ => true) true n 3 [v2] = some y_2 := h_2
  obtain ⟨a2, e2, g2⟩ := (el_int Tryd.underlying3) _ _ _ h_2
  obtain rfl : v2 = .int .i64 a2 := by simpa using e2
  obtain ⟨y_3, h_3⟩ := f 3 _ rfl
  replace h_3 : DataW.trod enc Tryd.prog w 0 (fun _ => true) true n 3 [v3] = some y_3 := h_3
  obtain ⟨a3, e3, g3⟩ := (el_int Tryd.underlying3) _ _ _ h_3
  obtain rfl : v3 = .int .i64 a3 := by simpa using e3
  exact ⟨⟨a0, a1, a2, a3⟩, rfl, ⟨g0, g1, g2, g3⟩⟩

theorem RowAt.op3 {w : World} {A : Option Addr} {xs : List Op3} (h : RowAt Op3.cells 4 w A xs) {i : Nat} (hi : i < xs.length) : ∃ b off, A = some ⟨b, off, none⟩ ∧ b < w.heap.size ∧ w.cell? ⟨b, off + i * 4, none⟩ = some (.int .i64 xs[i].r) ∧ w.cell? ⟨b, off + i * 4 + 1, none⟩ = some (.int .i64 xs[i].kind) ∧ w.cell? ⟨b, off + i * 4 + 2, none⟩ = some (.int .i64 xs[i].k) ∧ w.cell? ⟨b, off + i * 4 + 3, none⟩ = some (.int .i64 xs[i].val) := by
  obtain ⟨b, off, e, hlt, hc⟩ := h i hi
  exact ⟨b, off, e, hlt, hc 0 _ rfl, hc 1 _ rfl, hc 2 _ rfl, hc 3 _ rfl⟩
end Go.Proofs.YtlkhpkdndmlnaaaDoor
