/- Slices that come in: their elements' cells, out of the reading that a row gives. No condition. -/
import Derived.Test.YtblapbnplflghaaMem
import Derived.ProofKit
import Derived.OpenShut
import Derived.ShutString
import Derived.ChangeOld
import Derived.SizedLaws
import Derived.Deep.Slices
namespace Go.Proofs.Ytblapbnplflghaa
open Go.RowKit Go.ChangeShapes Go.WideShapes Go.ChangeAt
set_option linter.unusedVariables false
set_option linter.unusedSimpArgs false
set_option maxRecDepth 100000

/-- Elements of sz cells each stand in a row at A: element i's cells are f x. -/
def RowAt {α : Type} (f : α → List Value) (sz : Nat) (w : World) (A : Option Addr) (xs : List α) : Prop :=
  ∀ i (h : i < xs.length), ∃ b off, A = some ⟨b, off, none⟩ ∧ b < w.heap.size ∧ ∀ j v, (f xs[i])[j]? = some v → w.cell? ⟨b, off + i * sz + j, none⟩ = some v

theorem RowAt.below {α : Type} {f : α → List Value} {sz : Nat} {w w' : World} {A : Option Addr} {xs : List α} (h : RowAt f sz w A xs) (hb : Below w.heap.size w w') : RowAt f sz w' A xs := by
  intro i hi
  obtain ⟨b, off, e, hlt, hc⟩ := h i hi
  exact ⟨b, off, e, Nat.lt_of_lt_of_le hlt hb.size, fun j v hj => (hb.cell (p := ⟨b, off + i * sz + j, none⟩) hlt).trans (hc j v hj)⟩

section
variable {H : Type} {enc : TypeId × Value → H} {P : Program} {w : World}

theorem addr_spot {w : World} {a : Addr} {v : Value} (h : w.cell? a = some v) : a = ⟨a.block, a.off, none⟩ := by
  obtain ⟨b, o, s⟩ := a
  cases s with
  | none => rfl
  | some x => exfalso; simp [World.cell?] at h; split at h <;> simp at h

theorem open_row {α : Type} [Inhabited α] {t e : TypeId} {a : Option Addr} {len cap : Nat} {d : DataW H} {p : List MemPlace} (f : α → List Value) (good : α → Prop) (ht : P.underlying t = some (.slice e)) (sz : Nat) (hsz : P.cellsOf e = sz) (hpos : 0 < sz)
    (hf : ∀ n cs x, DataW.trod enc P w 0 (fun _ => true) true n e cs = some x → ∃ z : α, cs = f z ∧ good z)
    (h : DataW.Trod enc P w 0 (fun _ => true) true t (.slice a len cap) d p) :
    ∃ xs : List α, xs.length = len ∧ RowAt f sz w a xs ∧ (∀ x ∈ xs, good x) ∧ len ≤ cap ∧ ((∃ elems spare, d = .slice elems spare ∧ elems.length = len) ∨ len = 0) := by
  obtain ⟨fuel, hf0⟩ := h
  rcases Deep.open_slice ht hf0 with ⟨hcs, hx⟩ | ⟨x, l, c, m, n, D, Pl, hcs, hb, hl, hm, hmm, hx, hel⟩
  · simp [Value.cells] at hcs
    obtain ⟨rfl, rfl, rfl⟩ := hcs
    exact ⟨[], rfl, fun i hi => absurd hi (by simp), fun x hx => by simp at hx, Nat.le_refl _, .inr rfl⟩
  · simp [Value.cells] at hcs
    obtain ⟨rfl, rfl, rfl⟩ := hcs
    simp only [if_true] at hmm
    subst hmm
    have each : ∀ i, i < len → ∃ z : α, good z ∧ (f z).length = sz ∧ ∀ j, j < sz → w.cell? ((x.add (i * sz)).add j) = (f z)[j]? := by
      intro i hi
      obtain ⟨cs', hc, htr⟩ := hel i (by omega)
      obtain ⟨z, rfl, hg⟩ := hf _ _ _ htr
      rw [hsz] at hc
      obtain ⟨-, hlen, hcell⟩ := World.cells?_some hc
      exact ⟨z, hg, hlen, fun j hj => hcell j (by omega)⟩
    obtain ⟨F, hF⟩ := Deep.choose_lt each
    refine ⟨(List.range len).map F, by simp, ?_, ?_, hl, .inl ⟨_, _, (Prod.mk.inj hx).1, by simp⟩⟩
    · intro i hi
      have hi' : i < len := by simpa using hi
      obtain ⟨hg, hlen, hc⟩ := hF i hi'
      have hx0 : ∃ b off, x = ⟨b, off, none⟩ ∧ b < w.heap.size := by
        obtain ⟨hg0, hlen0, hc0⟩ := hF 0 (by omega)
        have := hc0 0 hpos
        have hs : ∃ v, (f (F 0))[0]? = some v := ⟨(f (F 0))[0], by simp [hlen0, hpos]⟩
        obtain ⟨v, hv⟩ := hs
        rw [hv] at this
        have e0 : (x.add (0 * sz)).add 0 = x := by simp [Addr.add]
        rw [e0] at this
        exact ⟨x.block, x.off, addr_spot this, World.block_lt_of_cell? w _ this⟩
      obtain ⟨b, off, rfl, hlt⟩ := hx0
      refine ⟨b, off, rfl, hlt, fun j v hj => ?_⟩
      have hj' : j < sz := by
        rcases Nat.lt_or_ge j sz with h | h
        · exact h
        · rw [List.getElem?_eq_none (by simpa [hlen] using h)] at hj; cases hj
      have hcj := hc j hj'
      rw [Deep.add_add] at hcj
      have e1 : (⟨b, off, none⟩ : Addr).add (i * sz + j) = ⟨b, off + i * sz + j, none⟩ := by
        unfold Addr.add
        split
        · rename_i h0; simp [Nat.add_assoc, h0]
        · simp [Nat.add_assoc]
      rw [e1] at hcj
      rw [hcj]
      simpa using hj
    · intro y hy
      obtain ⟨i, hi, rfl⟩ := List.mem_map.1 hy
      exact (hF i (by simpa using hi)).1

theorem row_sized {ts : List TypeId} {ds : List (DataW H)} {j : Nat} {t e : TypeId} {d : DataW H} {len B : Nat} (hsz : (DataW.weightsEach P ts ds).all (· ≤ reachBytes) = true) (ht : ts[j]? = some t) (hd : ds[j]? = some d)
    (hu : P.underlying t = some (.slice e)) (hB : P.bytesOf e = B) (h : (∃ elems spare, d = .slice elems spare ∧ elems.length = len) ∨ len = 0) : len * B ≤ 140737488351232 := by
  rcases h with ⟨elems, spare, rfl, rfl⟩ | rfl
  · have := sized_slice hsz ht hd hu
    rw [hB] at this
    have h2 : elems.length * B ≤ (elems.length + spare.length) * B := Nat.mul_le_mul_right _ (by omega)
    have h3 : reachBytes = 140737488351232 := by decide
    omega
  · omega

/-! One-cell elements -/
theorem el_int {e : TypeId} {k : IntKind} (he : P.underlying e = some (.int k)) : ∀ n cs x, DataW.trod enc P w 0 (fun _ => true) true n e cs = some x → ∃ z : Int, cs = [.int k z] ∧ (Lit.int k z).wf = true := by
  intro n cs x h
  obtain ⟨z, rfl, -, hw⟩ := DataW.trod_int he h
  exact ⟨z, rfl, hw⟩
theorem el_bool {e : TypeId} (he : P.underlying e = some .bool) : ∀ n cs x, DataW.trod enc P w 0 (fun _ => true) true n e cs = some x → ∃ z : Bool, cs = [.bool z] ∧ True := by
  intro n cs x h
  obtain ⟨z, rfl, -⟩ := DataW.trod_bool he h
  exact ⟨z, rfl, trivial⟩
theorem el_string {e : TypeId} (he : P.underlying e = some .string) : ∀ n cs x, DataW.trod enc P w 0 (fun _ => true) true n e cs = some x → ∃ z : ByteArray, cs = [.string z] ∧ z.size ≤ maxLen := by
  intro n cs x h
  obtain ⟨z, rfl, -, hs⟩ := DataW.trod_string he h
  exact ⟨z, rfl, hs⟩

/-- A struct's cells, field by field. -/
theorem struct_cells {t : TypeId} {fs : Array Field} {fuel : Nat} {cs : List Value} {x : DataW H × List MemPlace} (ht : P.underlying t = some (.struct fs)) (h : DataW.trod enc P w 0 (fun _ => true) true fuel t cs = some x) :
    cs.length = P.cellsOf t ∧ ∃ n, ∀ (i : Nat) (g : Field), fs[i]? = some g → ∃ y, DataW.trod enc P w 0 (fun _ => true) true n g.type ((cs.drop g.offset).take (P.cellsOf g.type)) = some y := by
  obtain ⟨xs, n, _, _, hl, hlen, hf⟩ := DataW.trod_struct ht h
  refine ⟨hl, n, fun i g hg => ?_⟩
  have hi : i < fs.size := by
    rcases Nat.lt_or_ge i fs.size with h | h
    · exact h
    · rw [Array.getElem?_eq_none h] at hg; cases hg
  exact ⟨xs[i], by rw [hf i g hg]; simp [hlen, hi]⟩
end
end Go.Proofs.Ytblapbnplflghaa
