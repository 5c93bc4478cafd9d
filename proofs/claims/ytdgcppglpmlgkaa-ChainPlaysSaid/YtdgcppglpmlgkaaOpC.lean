/- Op of the chain's law, and how it is read. -/
import Derived.Test.YtdgcppglpmlgkaaChainAlive
import Derived.Test.YtdgcppglpmlgkaaRow
import Derived.Test.YtdgcppglpmlgkaaBits
namespace Go.Proofs.Ytdgcppglpmlgkaa
open Go.RowKit
set_option linter.unusedVariables false
set_option linter.unusedSimpArgs false
set_option maxRecDepth 100000

structure Op where
  kind : Int
  list : Int
  k : Int
deriving DecidableEq, Inhabited
def Op.cells (z : Op) : List Value := [.int .i64 z.kind, .int .i64 z.list, .int .i64 z.k]
def Op.good (z : Op) : Prop := (Lit.int .i64 z.kind).wf = true ∧ (Lit.int .i64 z.list).wf = true ∧ (Lit.int .i64 z.k).wf = true
def Op.val (z : Op) : Value := .agg #[.int .i64 z.kind, .int .i64 z.list, .int .i64 z.k]
theorem el_Op {H : Type} {enc : TypeId × Value → H} {w : World} : ∀ n cs x, DataW.trod enc Try.prog w 0 (fun _ => true) true n 56 cs = some x → ∃ z : Op, cs = z.cells ∧ z.good := by
  intro n cs x h
  have hl := (struct_cells Try.underlying56 h).1
  rw [show Try.prog.cellsOf 56 = 3 by kernel_rfl] at hl
  obtain ⟨v0, v1, v2, rfl⟩ : ∃ v0 v1 v2 : Value, cs = [v0, v1, v2] := by
    match cs, hl with
    | [v0, v1, v2], _ => exact ⟨v0, v1, v2, rfl⟩
  obtain ⟨-, n, f⟩ := struct_cells Try.underlying56 h
  obtain ⟨y_0, h_0⟩ := f 0 _ rfl
  replace h_0 : DataW.trod enc Try.prog w 0 (fun _ => true) true n 3 [v0] = some y_0 := h_0
  obtain ⟨a0, e0, g0⟩ := (el_int Try.underlying3) _ _ _ h_0
  obtain rfl : v0 = .int .i64 a0 := by simpa using e0
  obtain ⟨y_1, h_1⟩ := f 1 _ rfl
  replace h_1 : DataW.trod enc Try.prog w 0 (fun _ => true) true n 3 [v1] = some y_1 := h_1
  obtain ⟨a1, e1, g1⟩ := (el_int Try.underlying3) _ _ _ h_1
  obtain rfl : v1 = .int .i64 a1 := by simpa using e1
  obtain ⟨y_2, h_2⟩ := f 2 _ rfl
  replace h_2 : DataW.trod enc Try.prog w 0 (fun _ => true) true n 3 [v2] = some y_2 := h_2
  obtain ⟨a2, e2, g2⟩ := (el_int Try.underlying3) _ _ _ h_2
  obtain rfl : v2 = .int .i64 a2 := by simpa using e2
  exact ⟨⟨a0, a1, a2⟩, rfl, ⟨g0, g1, g2⟩⟩

/-- Three blocks lie between a and b. -/
def In3 (a b p L M : Nat) : Prop := a ≤ p ∧ p < b ∧ a ≤ L ∧ L < b ∧ a ≤ M ∧ M < b
theorem ChI.other {w w' : World} {p L M n m a b c d p' L' M' : Nat} {R : Nat → List Nat} (h : ChI w p L M n m R) (hF : Fr (chS L' M') w w') (h1 : In3 a b p L M) (h2 : In3 c d p' L' M') (h3 : b ≤ c ∨ d ≤ a) : ChI w' p L M n m R :=
  h.fr hF (fun o hs => by unfold In3 at h1 h2; rcases hs with h | h <;> omega) (fun o hs => by unfold In3 at h1 h2; rcases hs with h | h <;> omega) (fun o hs => by unfold In3 at h1 h2; rcases hs with h | h <;> omega)
theorem ChI.rowLen {w : World} {p L M n m : Nat} {R : Nat → List Nat} (h : ChI w p L M n m R) (j : Int) : (rowI R j).length ≤ 8192 := by
  obtain ⟨s, h1, rfl, rfl, h2⟩ := h
  exact Nat.le_trans (h2.rowLen j) h1.bn
theorem ChI.natLen {w : World} {p L M n m : Nat} {R : Nat → List Nat} (h : ChI w p L M n m R) (j : Int) : (natsI (rowI R j)).length ≤ 1000000000000 := by
  have := h.rowLen j
  simp only [natsI, List.length_map]
  omega
theorem Cel.low {B : Nat} {w w' : World} {b o : Nat} {v : Value} (h : Cel w b o v) (hb : Below B w w') (hB : b < B) : Cel w' b o v :=
  ⟨(hb.cell (p := ⟨b, o, none⟩) hB).trans h.1, (hb.frozen (p := ⟨b, o, none⟩) hB).trans h.2⟩
theorem ChI.low {B : Nat} {w w' : World} {p L M n m : Nat} {R : Nat → List Nat} (h : ChI w p L M n m R) (hb : Below B w w') (hp : p < B) (hL : L < B) (hM : M < B) : ChI w' p L M n m R := by
  obtain ⟨s, h, h2⟩ := h
  exact ⟨s, ⟨h.pl.low hb hp, h.pm.low hb hp, fun k f hk hf => (h.hl k f hk hf).low hb hL, fun k f hk hf => (h.he k f hk hf).low hb hM, Nat.lt_of_lt_of_le h.lL hb.size, Nat.lt_of_lt_of_le h.lM hb.size, h.dpl, h.dpm, h.dlm, h.bn, h.bm⟩, h2⟩
theorem In3.mono {a b p L M a' b' : Nat} (h : In3 a b p L M) (h1 : a' ≤ a) (h2 : b ≤ b') : In3 a' b' p L M := by unfold In3 at *; omega

theorem mask1 (a : Int) : bits .and .i64 a 1 = 0 ∨ bits .and .i64 a 1 = 1 := by
  have := and_mask 1 1 (by decide) (by decide) a
  omega
theorem mask63 (a : Int) : ∃ k : Nat, bits .and .i64 a 63 = k ∧ k < 64 := by
  have := and_mask 6 63 (by decide) (by decide) a
  have h1 := Int.emod_nonneg a (show (((2 ^ 6 : Nat)) : Int) ≠ 0 by decide)
  have h2 := Int.emod_lt_of_pos a (show (0 : Int) < ((2 ^ 6 : Nat) : Int) by decide)
  rw [this]
  have e : ((2 ^ 6 : Nat) : Int) = 64 := by decide
  rw [e] at h1 h2 ⊢
  exact ⟨(a % 64).toNat, by omega, by omega⟩
theorem mixed (a : Int) (c : Nat) (hc : c < 2) : ∃ k : Nat, bits .or .i64 (bits .and .i64 a 30) c = k ∧ k < 64 ∧ k % 2 = c := by
  have hb : bv (c : Int) = BitVec.ofNat 64 c := by unfold bv; exact BitVec.ofInt_natCast _ _
  have h30 : bv 30 = 30#64 := by decide
  rw [or_bv, bv_and, hb, h30]
  generalize bv a = v
  have hx : (v &&& 30#64 ||| BitVec.ofNat 64 c).toNat = (v.toNat &&& 30) ||| c := by
    rw [BitVec.toNat_or, BitVec.toNat_and, BitVec.toNat_ofNat, BitVec.toNat_ofNat]
    rw [Nat.mod_eq_of_lt (show c < 2 ^ 64 by omega)]
  have h1 : (v.toNat &&& 30) < 2 ^ 5 := Nat.lt_of_le_of_lt Nat.and_le_right (by decide)
  have h2 : ((v.toNat &&& 30) ||| c) < 2 ^ 5 := Nat.or_lt_two_pow h1 (by omega)
  have h3 : ((v.toNat &&& 30) ||| c) % 2 = c := by
    have q1 : (v.toNat &&& 30) % 2 = 1 ↔ v.toNat % 2 = 1 ∧ 30 % 2 = 1 := Nat.and_mod_two_eq_one
    have q2 : ((v.toNat &&& 30) ||| c) % 2 = 1 ↔ (v.toNat &&& 30) % 2 = 1 ∨ c % 2 = 1 := Nat.or_mod_two_eq_one
    by_cases h : c = 1
    · subst h
      omega
    · have : c = 0 := by omega
      subst this
      omega
  refine ⟨(v.toNat &&& 30) ||| c, ?_, by omega, h3⟩
  rw [BitVec.toInt_eq_toNat_cond, hx, if_pos (by omega)]
end Go.Proofs.Ytdgcppglpmlgkaa
