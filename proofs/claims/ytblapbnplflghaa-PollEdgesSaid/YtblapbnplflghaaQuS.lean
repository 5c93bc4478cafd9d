/- Queues in memory: what they hold; a thing's number, a number's thing. -/
import Derived.Test.YtblapbnplflghaaChainI
import Derived.Test.YtblapbnplflghaaOwnE
import Derived.BigQuiet
import Derived.Deep.QuietTactic
import Derived.Deep.RegionHeld3
namespace Go.Proofs.Ytblapbnplflghaa
open Go.RowKit
set_option linter.unusedVariables false
set_option linter.unusedSimpArgs false
set_option linter.unusedSectionVars false
set_option maxRecDepth 100000

theorem ChI.rowLen4 {w : World} {p L M n m : Nat} {R : Nat → List Nat} (h : ChI w p L M n m R) (j : Int) : (rowI R j).length ≤ n := by
  obtain ⟨s, h1, rfl, rfl, h2⟩ := h
  exact h2.rowLen j
abbrev Th := Int × Int
def okB (t d : Nat) (x : Th) : Bool := (decide (x.1 = 1) && (decide (0 ≤ x.2) && decide (x.2 < t))) || (decide (x.1 = 2) && (decide (0 ≤ x.2) && decide (x.2 < d)))
def nodeN (t : Nat) (x : Th) : Nat := if x.1 = 1 then x.2.toNat else t + x.2.toNat
def thOf (t : Nat) (k : Nat) : Th := if k < t then (1, (k : Int)) else (2, (k : Int) - t)
theorem okB_iff {t d : Nat} {x : Th} : okB t d x = true ↔ (x.1 = 1 ∧ 0 ≤ x.2 ∧ x.2 < t) ∨ (x.1 = 2 ∧ 0 ≤ x.2 ∧ x.2 < d) := by unfold okB; simp
theorem node_lt {t d : Nat} {x : Th} (h : okB t d x = true) : nodeN t x < t + d := by
  rcases okB_iff.1 h with ⟨h1, h2, h3⟩ | ⟨h1, h2, h3⟩ <;> unfold nodeN
  · rw [if_pos h1]; omega
  · rw [if_neg (by omega)]; omega
theorem thOf_node {t d : Nat} {x : Th} (h : okB t d x = true) : thOf t (nodeN t x) = x := by
  obtain ⟨a, b⟩ := x
  rcases okB_iff.1 h with ⟨h1, h2, h3⟩ | ⟨h1, h2, h3⟩ <;> simp only at h1 h2 h3
  · have e : nodeN t (a, b) = b.toNat := by unfold nodeN; rw [if_pos h1]
    rw [e]; unfold thOf; rw [if_pos (by omega), h1]; congr 1; omega
  · have e : nodeN t (a, b) = t + b.toNat := by unfold nodeN; rw [if_neg (by simp only; omega)]
    rw [e]; unfold thOf; rw [if_neg (by omega), h1]; congr 1; omega
theorem node_inj {t d : Nat} {x y : Th} (h : okB t d x = true) (k : okB t d y = true) (e : nodeN t x = nodeN t y) : x = y := by rw [← thOf_node h, ← thOf_node k, e]
def heldT (T : List Th) : Nat := T.countP (fun x => decide (x.1 = 2))

structure QS (w : World) (q p L M t d mo : Nat) (T : List Th) : Prop where
  c0 : Cel w q 0 (.pointer (some ⟨p, 0, none⟩))
  c1 : Cel w q 1 (.int .i64 t)
  c2 : Cel w q 2 (.int .i64 d)
  c3 : Cel w q 3 (.int .i64 mo)
  c4 : Cel w q 4 (.int .i64 (heldT T))
  ch : ∃ R, ChI w p L M (t + d) 1 R ∧ R 0 = T.map (nodeN t)
  qp : q ≠ p ∧ q ≠ L ∧ q ≠ M
  ok : ∀ x ∈ T, okB t d x = true
  nd : T.Nodup
  bd : t + d ≤ 4096
def quS (q L M : Nat) : Nat → Nat → Prop := fun b o => b = q ∨ b = L ∨ b = M
theorem QS.fr {S : Nat → Nat → Prop} {w w' : World} {q p L M t d mo : Nat} {T : List Th} (h : QS w q p L M t d mo T) (hF : Fr S w w') (hq : ∀ o, ¬ S q o) (hp : ∀ o, ¬ S p o) (hL : ∀ o, ¬ S L o) (hM : ∀ o, ¬ S M o) : QS w' q p L M t d mo T := by
  obtain ⟨R, h1, h2⟩ := h.ch
  exact ⟨h.c0.fr hF (hq _), h.c1.fr hF (hq _), h.c2.fr hF (hq _), h.c3.fr hF (hq _), h.c4.fr hF (hq _), ⟨R, h1.fr hF hp hL hM, h2⟩, h.qp, h.ok, h.nd, h.bd⟩
theorem QS.lt {w : World} {q p L M t d mo : Nat} {T : List Th} (h : QS w q p L M t d mo T) : q < w.heap.size ∧ p < w.heap.size ∧ L < w.heap.size ∧ M < w.heap.size := by
  obtain ⟨R, h1, h2⟩ := h.ch
  have := h1.lt
  exact ⟨h.c0.lt, this.1, this.2.1, this.2.2.1⟩
theorem QS.below {w w' : World} {q p L M t d mo : Nat} {T : List Th} (h : QS w q p L M t d mo T) (hF : Below w.heap.size w w') : QS w' q p L M t d mo T :=
  h.fr (Fr.of_below (S := fun _ _ => False) hF (Nat.le_refl _)) (fun _ h => h) (fun _ h => h) (fun _ h => h) (fun _ h => h)
theorem QS.drewN {w : World} {q p L M t d mo : Nat} {T : List Th} (h : QS w q p L M t d mo T) (n : Nat) : QS (w.drewN n) q p L M t d mo T :=
  h.fr ((Fr.refl (fun _ _ => False) w).drewN n) (fun _ h => h) (fun _ h => h) (fun _ h => h) (fun _ h => h)
theorem QS.len {w : World} {q p L M t d mo : Nat} {T : List Th} (h : QS w q p L M t d mo T) : T.length ≤ 4096 := by
  obtain ⟨R, h1, h2⟩ := h.ch
  have := h1.rowLen4 0
  unfold rowI at this
  rw [if_pos (by decide)] at this
  simp only [Int.toNat_zero, h2, List.length_map] at this
  exact Nat.le_trans this h.bd

/-- The thing's value. -/
abbrev thV (x : Th) : Value := .agg #[.int .i64 x.1, .int .i64 x.2]
def nodeV (t d : Nat) (x : Th) : Int := if okB t d x then (nodeN t x : Int) else 0

set_option maxHeartbeats 4000000 in
theorem node_c {w : World} {q p L M t d mo : Nat} {T : List Th} (h : QS w q p L M t d mo T) (x : Th) :
    Calls Try.prog 49 #[.pointer (some ⟨q, 0, none⟩), thV x] w fun e w' => e = .returned (.tuple #[.int .i64 (nodeV t d x), .bool (okB t d x)]) ∧ Below w.heap.size w w' := by
  obtain ⟨a, b⟩ := x
  have hB := Below.alloc (Below.refl w.heap.size w) (Nat.le_refl _) (.cells #[.int .i64 a, .int .i64 b] 45)
  have H1 := h.below hB
  have z0 := (Cel.new w #[.int .i64 a, .int .i64 b] 45 0 _ rfl).1
  have z1 := (Cel.new w #[.int .i64 a, .int .i64 b] 45 1 _ rfl).1
  have c1 := H1.c1.1; have c2 := H1.c2.1
  have hbd := h.bd
  replace hB := Lib.hid hB
  clear h H1
  go_enter Try.func49, Try.ntmps49
  go_wp2_with fail
  generalize w.alloc (.cells #[.int .i64 a, .int .i64 b] 45) = W at *
  have hall : (a = 1 ∧ (0 ≤ b ∧ b < t)) ∨ (a = 1 ∧ b < 0) ∨ (a = 1 ∧ (0 ≤ b ∧ (t : Int) ≤ b)) ∨ (a = 2 ∧ (0 ≤ b ∧ b < d)) ∨ (a = 2 ∧ b < 0) ∨ (a = 2 ∧ (0 ≤ b ∧ (d : Int) ≤ b)) ∨ (a ≠ 1 ∧ a ≠ 2) := by omega
  rcases hall with ⟨h1, h2, h3⟩ | ⟨h1, h2⟩ | ⟨h1, h2, h3⟩ | ⟨h1, h2, h3⟩ | ⟨h1, h2⟩ | ⟨h1, h2, h3⟩ | ⟨h1, h2⟩
  · have f1 : (a == 1) = true := by rw [h1]; rfl
    have f4 : (a == 2) = false := by rw [h1]; rfl
    have f2 : decide ((0 : Int) ≤ b) = true := by simp; omega
    have f3 : decide (b < (t : Int)) = true := by simp; omega
    have hok : okB t d (a, b) = true := okB_iff.2 (.inl ⟨h1, h2, h3⟩)
    have hv : nodeV t d (a, b) = b := by unfold nodeV nodeN; rw [hok]; simp only [h1]; first | (simp; omega) | (push_cast; omega)
    replace hok := Lib.hid hok; replace hv := Lib.hid hv
    clear h1 h2 h3
    go_quiet (fail)
    go_wp2
    all_goals go_ret2
    all_goals exact ⟨by rw [hok.out, hv.out]; rfl, ⟨hB.out.os, hB.out.tape, hB.out.output, hB.out.size, hB.out.block⟩⟩
  · have f1 : (a == 1) = true := by rw [h1]; rfl
    have f4 : (a == 2) = false := by rw [h1]; rfl
    have f2 : decide ((0 : Int) ≤ b) = false := by simp; omega
    have hok : okB t d (a, b) = false := by rw [← Bool.not_eq_true, okB_iff]; simp only; omega
    have hv : nodeV t d (a, b) = 0 := by unfold nodeV; rw [hok]; rfl
    replace hok := Lib.hid hok; replace hv := Lib.hid hv
    clear h1 h2
    go_quiet (fail)
    go_wp2
    go_quiet (fail)
    go_wp2
    all_goals go_ret2
    all_goals exact ⟨by rw [hok.out, hv.out]; rfl, ⟨hB.out.os, hB.out.tape, hB.out.output, hB.out.size, hB.out.block⟩⟩
  · have f1 : (a == 1) = true := by rw [h1]; rfl
    have f4 : (a == 2) = false := by rw [h1]; rfl
    have f2 : decide ((0 : Int) ≤ b) = true := by simp; omega
    have f3 : decide (b < (t : Int)) = false := by simp; omega
    have hok : okB t d (a, b) = false := by rw [← Bool.not_eq_true, okB_iff]; simp only; omega
    have hv : nodeV t d (a, b) = 0 := by unfold nodeV; rw [hok]; rfl
    replace hok := Lib.hid hok; replace hv := Lib.hid hv
    clear h1 h2 h3
    go_quiet (fail)
    go_wp2
    go_quiet (fail)
    go_wp2
    all_goals go_ret2
    all_goals exact ⟨by rw [hok.out, hv.out]; rfl, ⟨hB.out.os, hB.out.tape, hB.out.output, hB.out.size, hB.out.block⟩⟩
  · have f1 : (a == 1) = false := by rw [h1]; rfl
    have f4 : (a == 2) = true := by rw [h1]; rfl
    have f2 : decide ((0 : Int) ≤ b) = true := by simp; omega
    have f5 : decide (b < (d : Int)) = true := by simp; omega
    have hok : okB t d (a, b) = true := okB_iff.2 (.inr ⟨h1, h2, h3⟩)
    have hv : nodeV t d (a, b) = (t : Int) + b := by unfold nodeV nodeN; rw [hok]; simp only [h1]; first | (simp; omega) | (push_cast; omega)
    have hw : wrap64 ((t : Int) + b) = (t : Int) + b := by unfold wrap64; omega
    replace hok := Lib.hid hok; replace hv := Lib.hid hv
    clear h1 h2 h3
    go_quiet (fail)
    go_wp2
    go_quiet (fail)
    go_wp2
    go_quiet (fail)
    go_wp2
    all_goals go_ret2
    all_goals exact ⟨by rw [hok.out, hv.out]; show Ending.returned (Value.tuple #[Value.int .i64 (wrap64 ((t : Int) + b)), Value.bool true]) = _; rw [hw], ⟨hB.out.os, hB.out.tape, hB.out.output, hB.out.size, hB.out.block⟩⟩
  · have f1 : (a == 1) = false := by rw [h1]; rfl
    have f4 : (a == 2) = true := by rw [h1]; rfl
    have f2 : decide ((0 : Int) ≤ b) = false := by simp; omega
    have hok : okB t d (a, b) = false := by rw [← Bool.not_eq_true, okB_iff]; simp only; omega
    have hv : nodeV t d (a, b) = 0 := by unfold nodeV; rw [hok]; rfl
    replace hok := Lib.hid hok; replace hv := Lib.hid hv
    clear h1 h2
    go_quiet (fail)
    go_wp2
    go_quiet (fail)
    go_wp2
    all_goals go_ret2
    all_goals exact ⟨by rw [hok.out, hv.out]; rfl, ⟨hB.out.os, hB.out.tape, hB.out.output, hB.out.size, hB.out.block⟩⟩
  · have f1 : (a == 1) = false := by rw [h1]; rfl
    have f4 : (a == 2) = true := by rw [h1]; rfl
    have f2 : decide ((0 : Int) ≤ b) = true := by simp; omega
    have f5 : decide (b < (d : Int)) = false := by simp; omega
    have hok : okB t d (a, b) = false := by rw [← Bool.not_eq_true, okB_iff]; simp only; omega
    have hv : nodeV t d (a, b) = 0 := by unfold nodeV; rw [hok]; rfl
    replace hok := Lib.hid hok; replace hv := Lib.hid hv
    clear h1 h2 h3
    go_quiet (fail)
    go_wp2
    go_quiet (fail)
    go_wp2
    all_goals go_ret2
    all_goals exact ⟨by rw [hok.out, hv.out]; rfl, ⟨hB.out.os, hB.out.tape, hB.out.output, hB.out.size, hB.out.block⟩⟩
  · have f1 : (a == 1) = false := by rw [beq_eq_false_iff_ne]; exact h1
    have f4 : (a == 2) = false := by rw [beq_eq_false_iff_ne]; exact h2
    have hok : okB t d (a, b) = false := by rw [← Bool.not_eq_true, okB_iff]; simp only; omega
    have hv : nodeV t d (a, b) = 0 := by unfold nodeV; rw [hok]; rfl
    replace hok := Lib.hid hok; replace hv := Lib.hid hv
    clear h1 h2
    go_quiet (fail)
    go_wp2
    go_quiet (fail)
    go_wp2
    all_goals go_ret2
    all_goals exact ⟨by rw [hok.out, hv.out]; rfl, ⟨hB.out.os, hB.out.tape, hB.out.output, hB.out.size, hB.out.block⟩⟩
end Go.Proofs.Ytblapbnplflghaa
