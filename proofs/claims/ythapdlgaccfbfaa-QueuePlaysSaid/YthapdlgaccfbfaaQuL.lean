/- Queues: the state of a law; the document's example. -/
import Derived.Test.YthapdlgaccfbfaaQuA
import Derived.Test.YthapdlgaccfbfaaEq
namespace Go.Proofs.Ythapdlgaccfbfaa
open Go.RowKit
set_option linter.unusedVariables false
set_option linter.unusedSimpArgs false
set_option linter.unusedSectionVars false
set_option maxRecDepth 100000

theorem eqTh0 (w : World) (x y : Th) : (Op.equalIn 10000 27 (thV x) (thV y)).run Try.prog w = .ok (x.1 == y.1 && (x.2 == y.2 && true)) w := by
  refine eqs_of (d := 9999) Try.underlying27 (by kernel_rfl) ?_
  refine eqs_cons (by rfl) (by go_simp; rfl) (by go_simp; rfl) (by go_simp) ?_
  refine eqs_cons (by rfl) (by go_simp; rfl) (by go_simp; rfl) (by go_simp) ?_
  exact eqs_nil
theorem eqTh (w : World) (x y : Th) : (Op.equalIn 10000 27 (thV x) (thV y)).run Try.prog w = .ok (decide (x = y)) w := by
  rw [eqTh0]
  congr 1
  obtain ⟨a, b⟩ := x; obtain ⟨c, d⟩ := y
  rw [Bool.eq_iff_iff]
  simp
theorem eqThT {x y : Th} (h : x = y) : ∀ w, (Op.equalIn 10000 27 (.agg #[.int .i64 x.1, .int .i64 x.2]) (.agg #[.int .i64 y.1, .int .i64 y.2])).run Try.prog w = .ok true w := fun w => (eqTh w x y).trans (by rw [decide_eq_true h])
theorem eqThF {x y : Th} (h : ¬ x = y) : ∀ w, (Op.equalIn 10000 27 (.agg #[.int .i64 x.1, .int .i64 x.2]) (.agg #[.int .i64 y.1, .int .i64 y.2])).run Try.prog w = .ok false w := fun w => (eqTh w x y).trans (by rw [decide_eq_false h])

/-- A queue that was made since w. -/
structure StQ (w wr : World) (q p L M t d mo : Nat) (T : List Th) : Prop where
  s : QS wr q p L M t d mo T
  b : Below w.heap.size w wr
  lo : w.heap.size ≤ q ∧ w.heap.size ≤ p ∧ w.heap.size ≤ L ∧ w.heap.size ≤ M
theorem StQ.op {w wr w2 : World} {q p L M t d mo : Nat} {T T' : List Th} (h : StQ w wr q p L M t d mo T) (K : QS w2 q p L M t d mo T') (F : Fr (quS q L M) wr w2) : StQ w w2 q p L M t d mo T' :=
  ⟨K, h.b.trans (F.below h.b.size (fun k o hk hs => by have := h.lo; rcases hs with e | e | e <;> omega)), h.lo⟩
theorem StQ.below {w wr w2 : World} {q p L M t d mo : Nat} {T : List Th} (h : StQ w wr q p L M t d mo T) (F : Below wr.heap.size wr w2) : StQ w w2 q p L M t d mo T :=
  ⟨h.s.below F, h.b.trans (F.mono h.b.size), h.lo⟩
theorem Cel.low {B : Nat} {w w' : World} {b o : Nat} {v : Value} (h : Cel w b o v) (hb : Below B w w') (hB : b < B) : Cel w' b o v :=
  ⟨(hb.cell (p := ⟨b, o, none⟩) hB).trans h.1, (hb.frozen (p := ⟨b, o, none⟩) hB).trans h.2⟩
theorem ChI.low {B : Nat} {w w' : World} {p L M n m : Nat} {R : Nat → List Nat} (h : ChI w p L M n m R) (hb : Below B w w') (hp : p < B) (hL : L < B) (hM : M < B) : ChI w' p L M n m R := by
  obtain ⟨s, h, h2⟩ := h
  exact ⟨s, ⟨h.pl.low hb hp, h.pm.low hb hp, fun k f hk hf => (h.hl k f hk hf).low hb hL, fun k f hk hf => (h.he k f hk hf).low hb hM, Nat.lt_of_lt_of_le h.lL hb.size, Nat.lt_of_lt_of_le h.lM hb.size, h.dpl, h.dpm, h.dlm, h.bn, h.bm⟩, h2⟩
theorem StQ.low {B : Nat} {w wr w2 : World} {q p L M t d mo : Nat} {T : List Th} (h : StQ w wr q p L M t d mo T) (F : Below B wr w2) (hl : q < B ∧ p < B ∧ L < B ∧ M < B) (hB : w.heap.size ≤ B) : StQ w w2 q p L M t d mo T := by
  obtain ⟨R, h1, hR⟩ := h.s.ch
  exact ⟨⟨h.s.c0.low F hl.1, h.s.c1.low F hl.1, h.s.c2.low F hl.1, h.s.c3.low F hl.1, h.s.c4.low F hl.1, ⟨R, h1.low F hl.2.1 hl.2.2.1 hl.2.2.2, hR⟩, h.s.qp, h.s.ok, h.s.nd, h.s.bd⟩, h.b.trans (F.mono hB), h.lo⟩
theorem StQ.new {w w1 w2 : World} {q p L M t d mo : Nat} {T : List Th} (hB : Below w.heap.size w w1) (S : QS w2 q p L M t d mo T) (l1 : w1.heap.size ≤ q) (l2 : w1.heap.size ≤ p) (l3 : w1.heap.size ≤ L) (l4 : w1.heap.size ≤ M) (B : Below w1.heap.size w1 w2) : StQ w w2 q p L M t d mo T :=
  ⟨S, hB.trans (B.mono hB.size), by have := hB.size; omega⟩

set_option maxHeartbeats 4000000 in
theorem alive12_c (w : World) : Calls Try.prog 6 #[] w fun r w' => r = .returned (.bool true) ∧ Below w.heap.size w w' := by
  go_enter Try.func6, Try.ntmps6
  go_wp2_with fail
  refine (newQ_c w 2 3 1 2 3 1 rfl rfl rfl (by decide)).mono ?_
  rintro e w1 ⟨q, p, L, M, rfl, S, l1, l2, l3, l4, B⟩
  have S0 := Lib.hid (StQ.new (Below.refl _ _) S l1 l2 l3 l4 B)
  clear S l1 l2 l3 l4 B
  go_wp2_with fail
  refine (pushQ_c S0.out.s (2, 2)).mono ?_
  rintro e w2 ⟨rfl, K, F⟩
  have S1 := Lib.hid (S0.out.op K F)
  rw [show pushT 2 3 1 [] (2, 2) = [(2, 2)] by decide] at S1
  rw [show pushB 2 3 1 [] (2, 2) = true by decide]
  clear K F S0
  go_wp2_with fail
  refine (pushQ_c S1.out.s (2, 0)).mono ?_
  rintro e w3 ⟨rfl, K, F⟩
  have S2 := Lib.hid (S1.out.op K F)
  rw [show pushT 2 3 1 [(2, 2)] (2, 0) = [(2, 2)] by decide] at S2
  rw [show pushB 2 3 1 [(2, 2)] (2, 0) = false by decide]
  clear K F S1
  go_wp2_with fail
  refine (pushQ_c S2.out.s (1, 1)).mono ?_
  rintro e w4 ⟨rfl, K, F⟩
  have S3 := Lib.hid (S2.out.op K F)
  rw [show pushT 2 3 1 [(2, 2)] (1, 1) = [(2, 2), (1, 1)] by decide] at S3
  rw [show pushB 2 3 1 [(2, 2)] (1, 1) = true by decide]
  clear K F S2
  go_wp2_with fail
  refine (pushQ_c S3.out.s (1, 1)).mono ?_
  rintro e w5 ⟨rfl, K, F⟩
  have S4 := Lib.hid (S3.out.op K F)
  rw [show pushT 2 3 1 [(2, 2), (1, 1)] (1, 1) = [(2, 2), (1, 1)] by decide] at S4
  rw [show pushB 2 3 1 [(2, 2), (1, 1)] (1, 1) = false by decide]
  clear K F S3
  go_wp2_with fail
  refine (lenQ_c S4.out.s).mono ?_
  rintro e w6 ⟨rfl, rfl⟩
  go_wp2_with fail
  refine (devsQ_c S4.out.s).mono ?_
  rintro e w6 ⟨rfl, rfl⟩
  rw [show heldT [((2 : Int), (2 : Int)), (1, 1)] = 1 by decide]
  go_wp2_with fail
  refine (dropQ_c S4.out.s (2, 2)).mono ?_
  rintro e w6 ⟨rfl, K, F⟩
  have S5 := Lib.hid (S4.out.op K F)
  rw [show ([((2 : Int), (2 : Int)), (1, 1)] : List Th).erase (2, 2) = [(1, 1)] by decide] at S5
  rw [show decide (((2, 2) : Th) ∈ ([((2 : Int), (2 : Int)), (1, 1)] : List Th)) = true by decide]
  clear K F S4
  go_wp2_with fail
  refine (popQ_c S5.out.s).mono ?_
  rintro e w7 ⟨rfl, K, F⟩
  have S6 := Lib.hid (S5.out.op K F)
  rw [show ([(1, 1)] : List Th).tail = [] from rfl] at S6
  rw [show decide (([(1, 1)] : List Th) ≠ []) = true from rfl, show ([(1, 1)] : List Th).headD (0, 0) = (1, 1) from rfl]
  have hS6l := Lib.hid S6.out.s.lt
  have B6 := Below.alloc (Below.refl w7.heap.size w7) (Nat.le_refl _) (.cells #[.int .i64 1, .int .i64 1] 27)
  have S7 := Lib.hid (S6.out.below B6)
  have y0 := Lib.hid (Cel.new w7 #[.int .i64 1, .int .i64 1] 27 0 _ rfl)
  have y1 := Lib.hid (Cel.new w7 #[.int .i64 1, .int .i64 1] 27 1 _ rfl)
  clear K F S5 B6 S6
  dsimp only [thV]
  go_wp2_with fail
  have hYn0 := Lib.hid (show q < w7.heap.size ∧ L < w7.heap.size ∧ M < w7.heap.size by have := hS6l.out; omega)
  generalize w7.alloc (.cells #[.int .i64 1, .int .i64 1] 27) = w8 at *
  generalize w7.heap.size = Y at *
  refine (popQ_c S7.out.s).mono ?_
  rintro e w9 ⟨rfl, K, F⟩
  have S8 := Lib.hid (S7.out.op K F)
  have hS7 := Lib.hid S7.out.s
  rw [show ([] : List Th).tail = [] from rfl] at S8
  rw [show decide (([] : List Th) ≠ []) = false from rfl, show ([] : List Th).headD (0, 0) = (0, 0) from rfl]
  have hYn : ∀ o, ¬ quS q L M Y o := fun o hs => by
    have := hYn0.out
    rcases hs with h | h | h <;> omega
  have F2 := (Fr.alloc F (.cells #[.int .i64 0, .int .i64 0] 27))
  have B9 := Below.alloc (Below.refl w9.heap.size w9) (Nat.le_refl _) (.cells #[.int .i64 0, .int .i64 0] 27)
  have S9 := Lib.hid (S8.out.below B9)
  have u0 := Lib.hid (y0.out.fr F2 (hYn _)); have u1 := Lib.hid (y1.out.fr F2 (hYn _))
  have v0 := u0.out.1; have v1 := u1.out.1
  have heq := eqThT (rfl : ((1, 1) : Th) = (1, 1))
  clear K F S7 F2 B9 S8 hYn hS7
  dsimp only [thV]
  go_wp2_with fail
  generalize w9.alloc (.cells #[.int .i64 0, .int .i64 0] 27) = w10 at *
  refine (allQ_c S9.out.s).mono ?_
  rintro e w11 ⟨v, rfl, O, F⟩
  obtain ⟨A, c, rfl, _⟩ := O.slice
  have S10 := Lib.hid (S9.out.below F)
  clear O F S9
  go_wp2
  go_ret
  exact ⟨rfl, S10.out.b⟩
end Go.Proofs.Ythapdlgaccfbfaa
