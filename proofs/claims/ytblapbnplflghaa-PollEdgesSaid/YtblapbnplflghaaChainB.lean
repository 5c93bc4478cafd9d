/- Push and Pull of package chain. -/
import Derived.Test.YtblapbnplflghaaChain
namespace Go.Proofs.Ytblapbnplflghaa
open Go.RowKit
set_option linter.unusedVariables false
set_option linter.unusedSimpArgs false

set_option maxHeartbeats 1000000 in
set_option maxRecDepth 100000 in
theorem push_empty {w : World} {p L M : Nat} {s : Ch} (h : ChC w p L M s) (j k : Nat) (hj : j < s.m) (hk : k < s.n) (hx : s.lk k 0 = -1) (hl : s.en j 1 = -1) (hc : 0 ≤ s.en j 2 ∧ s.en j 2 < 1000000) :
    Calls Try.prog 52 #[.pointer (some ⟨p, 0, none⟩), .int .i64 j, .int .i64 k] w fun e w' => e = .returned (.bool true) ∧ ChC w' p L M (s.push j k) ∧ Fr (chS L M) w w' := by
  have hfin : s.push j k = (((((s.setL k 0 j).setL k 1 (-1)).setL k 2 (-1)).setE j 0 k).setE j 1 k).setE j 2 (s.en j 2 + 1) := by
    unfold Ch.push Ch.push2 Ch.push1; rw [if_pos hl, hl]
  rw [hfin]
  clear hfin
  have H := Lib.hid h
  obtain ⟨h0, f0⟩ := h.pl
  obtain ⟨h1, f1⟩ := h.pm
  obtain ⟨h2, f2⟩ := h.hl k 0 hk (by omega)
  obtain ⟨h3, f3⟩ := h.he j 1 hj (by omega)
  rw [Nat.add_zero] at h2 f2
  rw [hl] at h3
  have hb := h.bn
  have hb2 := h.bm
  have hxb : (s.lk k 0 != -1) = false := by rw [hx]; rfl
  have HX := Lib.hid hx
  have HLL := Lib.hid hl
  clear hx hl h
  go_enter Try.func52, Try.ntmps52
  go_wp2
  refine wp_region_still_tail 12 (by kernel_rfl) (by kernel_rfl) ?_
  simp only [World.drew_eq, List.take_succ_cons, List.take_zero, List.drop_succ_cons, List.drop_zero]
  repeat still_step
  refine wpStill_nil ?_
  change wpList _ _ _ _ _ _
  have H1 := Lib.hid H.out.drew
  have F1 := Lib.hid ((Fr.refl (chS L M) w).drew)
  clear h0 f0 h1 f1 h2 f2 h3 f3 H
  generalize w.drew = w1 at *
  have dlm := H1.out.dlm
  obtain ⟨h0, f0⟩ := H1.out.pl
  obtain ⟨g0, e0⟩ := H1.out.hl k 0 hk (by omega)
  obtain ⟨g1, e1⟩ := H1.out.hl k 1 hk (by omega)
  obtain ⟨g2, e2⟩ := H1.out.hl k 2 hk (by omega)
  obtain ⟨g3, e3⟩ := H1.out.he j 0 hj (by omega)
  obtain ⟨g4, e4⟩ := H1.out.he j 1 hj (by omega)
  obtain ⟨g5, e5⟩ := H1.out.he j 2 hj (by omega)
  rw [Nat.add_zero] at g0 e0 g3 e3
  rw [HLL.out] at g4
  go_wp2
  go_ret
  exact ⟨rfl, (((((H1.out.setL hk (f := 0) (by omega) rfl j).setL hk (f := 1) (by omega) rfl (-1)).setL hk (f := 2) (by omega) rfl (-1)).setE hj (f := 0) (by omega) rfl k).setE hj (f := 1) (by omega) rfl k).setE hj (f := 2) (by omega) rfl (s.en j 2 + 1), frM (frM (frM (frL (frL (frL F1.out _) _) _) _) _) _⟩

set_option maxHeartbeats 1000000 in
set_option maxRecDepth 100000 in
theorem push_behind {w : World} {p L M : Nat} {s : Ch} (h : ChC w p L M s) (j k q : Nat) (hj : j < s.m) (hk : k < s.n) (hx : s.lk k 0 = -1) (hl : s.en j 1 = q) (hq : q < s.n) (hc : 0 ≤ s.en j 2 ∧ s.en j 2 < 1000000) :
    Calls Try.prog 52 #[.pointer (some ⟨p, 0, none⟩), .int .i64 j, .int .i64 k] w fun e w' => e = .returned (.bool true) ∧ ChC w' p L M (s.push j k) ∧ Fr (chS L M) w w' := by
  have hfin : s.push j k = (((((s.setL k 0 j).setL k 1 q).setL k 2 (-1)).setL q 2 k).setE j 1 k).setE j 2 (s.en j 2 + 1) := by
    unfold Ch.push Ch.push2 Ch.push1; rw [if_neg (by omega), hl, Int.toNat_natCast]
  rw [hfin]
  clear hfin
  have H := Lib.hid h
  obtain ⟨h0, f0⟩ := h.pl
  obtain ⟨h1, f1⟩ := h.pm
  obtain ⟨h2, f2⟩ := h.hl k 0 hk (by omega)
  obtain ⟨h3, f3⟩ := h.he j 1 hj (by omega)
  rw [Nat.add_zero] at h2 f2
  rw [hl] at h3
  have hb := h.bn
  have hb2 := h.bm
  have hxb : (s.lk k 0 != -1) = false := by rw [hx]; rfl
  have hqb : ((q : Int) == -1) = false := beq_eq_false_iff_ne.mpr (by omega)
  have HX := Lib.hid hx
  have HLL := Lib.hid hl
  clear hx hl h
  go_enter Try.func52, Try.ntmps52
  go_wp2
  refine wp_region_still_tail 12 (by kernel_rfl) (by kernel_rfl) ?_
  simp only [World.drew_eq, List.take_succ_cons, List.take_zero, List.drop_succ_cons, List.drop_zero]
  repeat still_step
  refine wpStill_nil ?_
  change wpList _ _ _ _ _ _
  have H1 := Lib.hid H.out.drew
  have F1 := Lib.hid ((Fr.refl (chS L M) w).drew)
  clear h0 f0 h1 f1 h2 f2 h3 f3 H
  generalize w.drew = w1 at *
  have dlm := H1.out.dlm
  obtain ⟨h0, f0⟩ := H1.out.pl
  obtain ⟨g0, e0⟩ := H1.out.hl k 0 hk (by omega)
  obtain ⟨g1, e1⟩ := H1.out.hl k 1 hk (by omega)
  obtain ⟨g2, e2⟩ := H1.out.hl k 2 hk (by omega)
  obtain ⟨g4, e4⟩ := H1.out.he j 1 hj (by omega)
  rw [Nat.add_zero] at g0 e0
  rw [HLL.out] at g4
  go_wp2
  have H2 := Lib.hid (((H1.out.setL hk (f := 0) (by omega) rfl j).setL hk (f := 1) (by omega) rfl q).setL hk (f := 2) (by omega) rfl (-1))
  have F2 := Lib.hid (frL (frL (frL F1.out (o := k * 3) (.int .i64 j)) (o := k * 3 + 1) (.int .i64 q)) (o := k * 3 + 2) (.int .i64 (-1)))
  clear h0 f0 g0 e0 g1 e1 g2 e2 g4 e4 H1 F1
  generalize ((w1.setCell ⟨L, k * 3, none⟩ (.int .i64 j)).setCell ⟨L, k * 3 + 1, none⟩ (.int .i64 q)).setCell ⟨L, k * 3 + 2, none⟩ (.int .i64 (-1)) = w2 at *
  obtain ⟨h0, f0⟩ := H2.out.pl
  replace h0 : w2.cell? ⟨p, 0, none⟩ = some (.slice (some ⟨L, 0, none⟩) s.n s.n) := h0
  obtain ⟨g4, e4⟩ := H2.out.he j 1 hj (by omega)
  replace g4 : w2.cell? ⟨M, j * 3 + 1, none⟩ = some (.int .i64 q) := by rw [← HLL.out]; exact g4
  refine wp_region_still_tail 11 (by kernel_rfl) (by kernel_rfl) ?_
  simp only [World.drew_eq, List.take_succ_cons, List.take_zero, List.drop_succ_cons, List.drop_zero]
  repeat still_step
  refine wpStill_nil ?_
  change wpList _ _ _ _ _ _
  have H3 := Lib.hid H2.out.drew
  have F3 := Lib.hid F2.out.drew
  clear h0 f0 g4 e4 H2 F2
  generalize w2.drew = w3 at *
  obtain ⟨g0, e0⟩ := H3.out.hl q 2 hq (by omega)
  obtain ⟨g4, e4⟩ := H3.out.he j 1 hj (by omega)
  obtain ⟨g5, e5⟩ := H3.out.he j 2 hj (by omega)
  replace g4 : w3.cell? ⟨M, j * 3 + 1, none⟩ = some (.int .i64 q) := by rw [← HLL.out]; exact g4
  replace g5 : w3.cell? ⟨M, j * 3 + 2, none⟩ = some (.int .i64 (s.en j 2)) := g5
  go_wp2
  go_ret
  exact ⟨rfl, ((H3.out.setL hq (f := 2) (by omega) rfl k).setE hj (f := 1) (by omega) rfl k).setE hj (f := 2) (by omega) rfl (s.en j 2 + 1), frM (frM (frL F3.out _) _) _⟩
end Go.Proofs.Ytblapbnplflghaa
