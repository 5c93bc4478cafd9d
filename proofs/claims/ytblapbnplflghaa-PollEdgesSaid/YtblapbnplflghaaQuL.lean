/- Queues: the state of a law; the document's example. -/
import Derived.Test.YtblapbnplflghaaQuA
import Derived.Test.YtblapbnplflghaaEq
namespace Go.Proofs.Ytblapbnplflghaa
open Go.RowKit
set_option linter.unusedVariables false
set_option linter.unusedSimpArgs false
set_option linter.unusedSectionVars false
set_option maxRecDepth 100000

theorem eqTh0 (w : World) (x y : Th) : (Op.equalIn 10000 45 (thV x) (thV y)).run Try.prog w = .ok (x.1 == y.1 && (x.2 == y.2 && true)) w := by
  refine eqs_of (d := 9999) Try.underlying45 (by kernel_rfl) ?_
  refine eqs_cons (by rfl) (by go_simp; rfl) (by go_simp; rfl) (by go_simp) ?_
  refine eqs_cons (by rfl) (by go_simp; rfl) (by go_simp; rfl) (by go_simp) ?_
  exact eqs_nil
theorem eqTh (w : World) (x y : Th) : (Op.equalIn 10000 45 (thV x) (thV y)).run Try.prog w = .ok (decide (x = y)) w := by
  rw [eqTh0]
  congr 1
  obtain ⟨a, b⟩ := x; obtain ⟨c, d⟩ := y
  rw [Bool.eq_iff_iff]
  simp
theorem eqThT {x y : Th} (h : x = y) : ∀ w, (Op.equalIn 10000 45 (.agg #[.int .i64 x.1, .int .i64 x.2]) (.agg #[.int .i64 y.1, .int .i64 y.2])).run Try.prog w = .ok true w := fun w => (eqTh w x y).trans (by rw [decide_eq_true h])
theorem eqThF {x y : Th} (h : ¬ x = y) : ∀ w, (Op.equalIn 10000 45 (.agg #[.int .i64 x.1, .int .i64 x.2]) (.agg #[.int .i64 y.1, .int .i64 y.2])).run Try.prog w = .ok false w := fun w => (eqTh w x y).trans (by rw [decide_eq_false h])

/-- A queue that was made since w. -/
structure StQ (w wr : World) (q p L M t d mo : Nat) (T : List Th) : Prop where
  s : QS wr q p L M t d mo T
  b : Below w.heap.size w wr
  lo : w.heap.size ≤ q ∧ w.heap.size ≤ p ∧ w.heap.size ≤ L ∧ w.heap.size ≤ M
theorem StQ.op {w wr w2 : World} {q p L M t d mo : Nat} {T T' : List Th} (h : StQ w wr q p L M t d mo T) (K : QS w2 q p L M t d mo T') (F : Fr (quS q L M) wr w2) : StQ w w2 q p L M t d mo T' :=
  ⟨K, h.b.trans (F.below h.b.size (fun k o hk hs => by have := h.lo; rcases hs with e | e | e <;> omega)), h.lo⟩
theorem StQ.below {w wr w2 : World} {q p L M t d mo : Nat} {T : List Th} (h : StQ w wr q p L M t d mo T) (F : Below wr.heap.size wr w2) : StQ w w2 q p L M t d mo T :=
  ⟨h.s.below F, h.b.trans (F.mono h.b.size), h.lo⟩
theorem Cel.low {B : Nat} {w w' : World} {b o : Nat} {v : Value} (h : Cel w b o v) (hb : Below B w w') (hB : b < B) : Cel w' b o v :=
  ⟨(hb.cell (p := ⟨b, o, none⟩) hB).trans h.1, (hb.frozen (p := ⟨b, o, none⟩) hB).trans h.2⟩
theorem ChI.low {B : Nat} {w w' : World} {p L M n m : Nat} {R : Nat → List Nat} (h : ChI w p L M n m R) (hb : Below B w w') (hp : p < B) (hL : L < B) (hM : M < B) : ChI w' p L M n m R := by
  obtain ⟨s, h, h2⟩ := h
  exact ⟨s, ⟨h.pl.low hb hp, h.pm.low hb hp, fun k f hk hf => (h.hl k f hk hf).low hb hL, fun k f hk hf => (h.he k f hk hf).low hb hM, Nat.lt_of_lt_of_le h.lL hb.size, Nat.lt_of_lt_of_le h.lM hb.size, h.dpl, h.dpm, h.dlm, h.bn, h.bm⟩, h2⟩
theorem StQ.low {B : Nat} {w wr w2 : World} {q p L M t d mo : Nat} {T : List Th} (h : StQ w wr q p L M t d mo T) (F : Below B wr w2) (hl : q < B ∧ p < B ∧ L < B ∧ M < B) (hB : w.heap.size ≤ B) : StQ w w2 q p L M t d mo T := by
  obtain ⟨R, h1, hR⟩ := h.s.ch
  exact ⟨⟨h.s.c0.low F hl.1, h.s.c1.low F hl.1, h.s.c2.low F hl.1, h.s.c3.low F hl.1, h.s.c4.low F hl.1, ⟨R, h1.low F hl.2.1 hl.2.2.1 hl.2.2.2, hR⟩, h.s.qp, h.s.ok, h.s.nd, h.s.bd⟩, h.b.trans (F.mono hB), h.lo⟩
theorem StQ.new {w w1 w2 : World} {q p L M t d mo : Nat} {T : List Th} (hB : Below w.heap.size w w1) (S : QS w2 q p L M t d mo T) (l1 : w1.heap.size ≤ q) (l2 : w1.heap.size ≤ p) (l3 : w1.heap.size ≤ L) (l4 : w1.heap.size ≤ M) (B : Below w1.heap.size w1 w2) : StQ w w2 q p L M t d mo T :=
  ⟨S, hB.trans (B.mono hB.size), by have := hB.size; omega⟩

end Go.Proofs.Ytblapbnplflghaa
