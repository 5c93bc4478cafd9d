/- make([]T, n) at a variable n. -/
import Derived.Test.YtblapbnplflghaaOwn
namespace Go.Proofs.Ytblapbnplflghaa
open Go.RowKit
set_option linter.unusedVariables false
set_option linter.unusedSimpArgs false
set_option maxRecDepth 100000

/-- make([]T, n): one new block, whose cells are n times the zero value's. -/
theorem make_eq {t e : TypeId} {z : Value} {zs : Array Value} {size bytes : Nat} (ht : Try.prog.underlying t = some (.slice e)) (hinfo : (Try.prog.info? e).map (fun i => (i.zero, i.size, i.bytes)) = some (some z, size, bytes)) (hz : z.cells = zs) (hs : zs.size = size)
    (kl kc : IntKind) (n : Nat) (hb : bytes * n ≤ 281474976710656) (hn : n ≤ 9223372036854775807) :
    ∃ Z : Array Value, Z.size = n * size ∧ (∀ k f, k < n → f < size → Z[k * size + f]? = zs[f]?) ∧
      ∀ w : World, (Instr.makeSlice t (.int kl (n : Int)) (.int kc (n : Int))).run Try.prog w = .ok (.slice (some ⟨w.heap.size, 0, none⟩) n n) (w.alloc (.cells Z e)) := by
  obtain ⟨i, hi, hz0, hz1, hz2⟩ := info_parts hinfo
  refine ⟨madeCells zs (n * size), by rw [size_madeCells], ?_, fun w => ?_⟩
  · intro k f hk hf
    have h1 : k * size + f < n * size := by
      have : (k + 1) * size ≤ n * size := Nat.mul_le_mul_right _ hk
      rw [Nat.add_mul] at this
      omega
    have h2 : (k * size + f) % size = f := by rw [Nat.mul_comm, Nat.mul_add_mod, Nat.mod_eq_of_lt hf]
    simp [madeCells, h1, hs, h2, hf]
  · have hb2 : (i.bytes : Int) * (n : Int) ≤ 281474976710656 := by
      rw [hz2]
      have h : ((bytes * n : Nat) : Int) ≤ 281474976710656 := by omega
      rwa [Int.natCast_mul] at h
    have := run_make (P := Try.prog) w t e i z ht hi hz0 kl kc n n (by omega) (Int.le_refl _) hb2 (by omega)
    rw [hz, hz1] at this
    simpa using this
end Go.Proofs.Ytblapbnplflghaa
