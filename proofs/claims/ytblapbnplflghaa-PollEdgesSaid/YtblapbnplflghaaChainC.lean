/- Pull of package chain. -/
import Derived.Test.YtblapbnplflghaaChainB
import Derived.Deep.DeepCutAuto
import Derived.Deep.CutBlock
import Derived.Deep.RegionHeld3
namespace Go.Proofs.Ytblapbnplflghaa
open Go.RowKit
set_option linter.unusedVariables false
set_option linter.unusedSimpArgs false

def Ch.pull1 (s : Ch) (j k : Nat) : Ch := if s.lk k 1 = -1 then s.setE j 0 (s.lk k 2) else s.setL (s.lk k 1).toNat 2 (s.lk k 2)
def Ch.pull2 (s : Ch) (j k : Nat) : Ch := if s.lk k 2 = -1 then (s.pull1 j k).setE j 1 (s.lk k 1) else (s.pull1 j k).setL (s.lk k 2).toNat 1 (s.lk k 1)
def Ch.pull (s : Ch) (j k : Nat) : Ch := ((((s.pull2 j k).setE j 2 (s.en j 2 - 1)).setL k 0 (-1)).setL k 1 (-1)).setL k 2 (-1)

theorem pull_no {w : World} {p L M : Nat} {s : Ch} (h : ChC w p L M s) (k : Int) (hB : s.onB k = false) :
    Calls Try.prog 51 #[.pointer (some ⟨p, 0, none⟩), .int .i64 k] w fun e w' => e = .returned (.bool false) ∧ w = w' := by
  go_enter Try.func51, Try.ntmps51
  go_wp2_with fail
  refine (on_c h k).mono ?_
  rintro e w' ⟨rfl, rfl⟩
  rw [hB]
  clear h hB
  go_wp2
  go_ret
  exact ⟨rfl, rfl⟩

set_option maxHeartbeats 2000000 in
set_option maxRecDepth 100000 in
theorem pull_nn {w : World} {p L M : Nat} {s : Ch} (h : ChC w p L M s) (j k : Nat) (hj : j < s.m) (hk : k < s.n) (hx : s.lk k 0 = j) (hp : s.lk k 1 = (-1 : Int)) (hn : s.lk k 2 = (-1 : Int)) (hc : 0 < s.en j 2 ∧ s.en j 2 < 1000000) :
    Calls Try.prog 51 #[.pointer (some ⟨p, 0, none⟩), .int .i64 k] w fun e w' => e = .returned (.bool true) ∧ ChC w' p L M (s.pull j k) ∧ Fr (chS L M) w w' := by
  have hfin : s.pull j k = ((((((s.setE j 0 (-1 : Int)).setE j 1 (-1 : Int)).setE j 2 (s.en j 2 - 1)).setL k 0 (-1)).setL k 1 (-1)).setL k 2 (-1)) := by
    unfold Ch.pull Ch.pull2 Ch.pull1; rw [if_pos hn, if_pos hp, hp, hn]
  rw [hfin]
  clear hfin
  have hB : s.onB k = true := by unfold Ch.onB Ch.okK; simp [hk, hx] <;> omega
  have hV : s.onV k = j := by unfold Ch.onV; rw [hB, if_pos rfl, Int.toNat_natCast, hx]
  obtain ⟨h0, f0⟩ := h.pl
  obtain ⟨h1, f1⟩ := h.pm
  obtain ⟨c0, d0⟩ := h.hl k 0 hk (by omega)
  obtain ⟨c1, d1⟩ := h.hl k 1 hk (by omega)
  obtain ⟨c2, d2⟩ := h.hl k 2 hk (by omega)
  rw [Nat.add_zero] at c0 d0
  rw [hx] at c0; rw [hp] at c1; rw [hn] at c2
  have hb1 := h.bn; have hb2 := h.bm
  have H := Lib.hid h; have HX := Lib.hid hx; have HP := Lib.hid hp; have HN := Lib.hid hn
  clear hx hp hn
  go_enter Try.func51, Try.ntmps51
  go_wp2_with fail
  refine (on_c h k).mono ?_
  rintro e w' ⟨rfl, rfl⟩
  rw [hB, hV]
  clear h hB hV
  go_wp2
  have xp : p < w.heap.size := H.out.pl.lt
  have xL : L < w.heap.size := H.out.lL
  go_region_held3 (fun w' => w'.cell? ⟨p, 0, none⟩ = some (.slice (some ⟨L, 0, none⟩) s.n s.n) ∧ w'.cell? ⟨p, 1, none⟩ = some (.slice (some ⟨M, 0, none⟩) s.m s.m) ∧ w'.cell? ⟨L, k * 3, none⟩ = some (.int .i64 j) ∧ w'.cell? ⟨L, k * 3 + 1, none⟩ = some (.int .i64 (-1 : Int)) ∧ w'.cell? ⟨L, k * 3 + 2, none⟩ = some (.int .i64 (-1 : Int))) (go_keep) (fail)
  have H2 := Lib.hid (H.out.alloc (.cells #[.int .i64 j, .int .i64 ((-1 : Int)), .int .i64 ((-1 : Int))] 92)).drew
  have F2 := Lib.hid ((Fr.refl (chS L M) w).alloc (.cells #[.int .i64 j, .int .i64 ((-1 : Int)), .int .i64 ((-1 : Int))] 92)).drew
  have X2 := Lib.hid (Blk.new w [.int .i64 j, .int .i64 ((-1 : Int)), .int .i64 ((-1 : Int))] 92).drew
  have xM : M < w.heap.size := H.out.lM
  clear h0 f0 h1 f1 c0 d0 c1 d1 c2 d2 H
  go_upto_region 5 with (fail)
  generalize hw2 : (w.alloc (.cells #[.int .i64 j, .int .i64 ((-1 : Int)), .int .i64 ((-1 : Int))] 92)).drew = w2 at *
  have HW2 := Lib.hid hw2; clear hw2
  generalize hX : w.heap.size = X at *
  have HXs := Lib.hid hX; clear hX
  have dlm := H2.out.dlm
  have dpx : ¬ p = X := by omega
  have dlx : ¬ L = X := by omega
  have dmx : ¬ M = X := by omega
  have h0 : w2.cell? ⟨p, 0, none⟩ = some (.slice (some ⟨L, 0, none⟩) s.n s.n) := H2.out.pl.1
  have x1 : w2.cell? ⟨X, 1, none⟩ = some (.int .i64 ((-1 : Int))) := X2.out.at 1 rfl
  have x2 : w2.cell? ⟨X, 2, none⟩ = some (.int .i64 ((-1 : Int))) := X2.out.at 2 rfl
  obtain ⟨m0, n0⟩ := H2.out.he j 0 hj (by omega)
  rw [Nat.add_zero] at m0 n0
  go_upto_region 8 with (fail)
  clear h0 x1 x2 m0 n0
  have H3 := Lib.hid (H2.out.setE hj (f := 0) (by omega) rfl ((-1 : Int)))
  have F3 := Lib.hid (frM F2.out (o := j * 3) (.int .i64 ((-1 : Int))))
  have X3 := Lib.hid (X2.out.fr ((Fr.refl (chS L M) _).setCell (k := M) (o := j * 3) (fun _ => .inr rfl) (.int .i64 ((-1 : Int)))) (fun _ hs => by rcases hs with hs | hs <;> omega))
  clear H2 F2 X2
  generalize w2.setCell ⟨M, j * 3, none⟩ (.int .i64 ((-1 : Int))) = w3 at *
  have x1 : w3.cell? ⟨X, 1, none⟩ = some (.int .i64 ((-1 : Int))) := X3.out.at 1 rfl
  have x2 : w3.cell? ⟨X, 2, none⟩ = some (.int .i64 ((-1 : Int))) := X3.out.at 2 rfl
  obtain ⟨m1, n1⟩ := H3.out.he j 1 hj (by omega)
  go_upto_region 11 with (fail)
  clear x1 x2 m1 n1
  have H4 := Lib.hid (H3.out.setE hj (f := 1) (by omega) rfl ((-1 : Int)))
  have F4 := Lib.hid (frM F3.out (o := j * 3 + 1) (.int .i64 ((-1 : Int))))
  have X4 := Lib.hid (X3.out.fr ((Fr.refl (chS L M) _).setCell (k := M) (o := j * 3 + 1) (fun _ => .inr rfl) (.int .i64 ((-1 : Int)))) (fun _ hs => by rcases hs with hs | hs <;> omega))
  clear H3 F3 X3
  generalize w3.setCell ⟨M, j * 3 + 1, none⟩ (.int .i64 ((-1 : Int))) = w4 at *
  have h0 : w4.cell? ⟨p, 0, none⟩ = some (.slice (some ⟨L, 0, none⟩) s.n s.n) := H4.out.pl.1
  obtain ⟨m2, n2⟩ := H4.out.he j 2 hj (by omega)
  replace m2 : w4.cell? ⟨M, j * 3 + 2, none⟩ = some (.int .i64 (s.en j 2)) := by simpa [Ch.setE, Ch.setL] using m2
  obtain ⟨c0, d0⟩ := H4.out.hl k 0 hk (by omega)
  obtain ⟨c1, d1⟩ := H4.out.hl k 1 hk (by omega)
  obtain ⟨c2, d2⟩ := H4.out.hl k 2 hk (by omega)
  rw [Nat.add_zero] at c0 d0
  go_wp2
  go_ret
  exact ⟨rfl, (((H4.out.setE hj (f := 2) (by omega) rfl (s.en j 2 - 1)).setL hk (f := 0) (by omega) rfl (-1)).setL hk (f := 1) (by omega) rfl (-1)).setL hk (f := 2) (by omega) rfl (-1), frL (frL (frL (frM F4.out _) _) _) _⟩

set_option maxHeartbeats 2000000 in
set_option maxRecDepth 100000 in
theorem pull_nq {w : World} {p L M : Nat} {s : Ch} (h : ChC w p L M s) (j k b : Nat) (hj : j < s.m) (hk : k < s.n) (hx : s.lk k 0 = j) (hp : s.lk k 1 = (-1 : Int)) (hn : s.lk k 2 = (b : Int)) (hb : b < s.n) (hbk : b ≠ k) (hc : 0 < s.en j 2 ∧ s.en j 2 < 1000000) :
    Calls Try.prog 51 #[.pointer (some ⟨p, 0, none⟩), .int .i64 k] w fun e w' => e = .returned (.bool true) ∧ ChC w' p L M (s.pull j k) ∧ Fr (chS L M) w w' := by
  have hfin : s.pull j k = ((((((s.setE j 0 (b : Int)).setL b 1 (-1 : Int)).setE j 2 (s.en j 2 - 1)).setL k 0 (-1)).setL k 1 (-1)).setL k 2 (-1)) := by
    unfold Ch.pull Ch.pull2 Ch.pull1; rw [if_neg (by omega), if_pos hp, hp, hn]; rfl
  rw [hfin]
  clear hfin
  have hB : s.onB k = true := by unfold Ch.onB Ch.okK; simp [hk, hx] <;> omega
  have hV : s.onV k = j := by unfold Ch.onV; rw [hB, if_pos rfl, Int.toNat_natCast, hx]
  obtain ⟨h0, f0⟩ := h.pl
  obtain ⟨h1, f1⟩ := h.pm
  obtain ⟨c0, d0⟩ := h.hl k 0 hk (by omega)
  obtain ⟨c1, d1⟩ := h.hl k 1 hk (by omega)
  obtain ⟨c2, d2⟩ := h.hl k 2 hk (by omega)
  rw [Nat.add_zero] at c0 d0
  rw [hx] at c0; rw [hp] at c1; rw [hn] at c2
  have hb1 := h.bn; have hb2 := h.bm
  have H := Lib.hid h; have HX := Lib.hid hx; have HP := Lib.hid hp; have HN := Lib.hid hn
  clear hx hp hn
  have hbb : ((b : Int) == -1) = false := beq_eq_false_iff_ne.mpr (by omega)
  go_enter Try.func51, Try.ntmps51
  go_wp2_with fail
  refine (on_c h k).mono ?_
  rintro e w' ⟨rfl, rfl⟩
  rw [hB, hV]
  clear h hB hV
  go_wp2
  have xp : p < w.heap.size := H.out.pl.lt
  have xL : L < w.heap.size := H.out.lL
  go_region_held3 (fun w' => w'.cell? ⟨p, 0, none⟩ = some (.slice (some ⟨L, 0, none⟩) s.n s.n) ∧ w'.cell? ⟨p, 1, none⟩ = some (.slice (some ⟨M, 0, none⟩) s.m s.m) ∧ w'.cell? ⟨L, k * 3, none⟩ = some (.int .i64 j) ∧ w'.cell? ⟨L, k * 3 + 1, none⟩ = some (.int .i64 (-1 : Int)) ∧ w'.cell? ⟨L, k * 3 + 2, none⟩ = some (.int .i64 (b : Int))) (go_keep) (fail)
  have H2 := Lib.hid (H.out.alloc (.cells #[.int .i64 j, .int .i64 ((-1 : Int)), .int .i64 ((b : Int))] 92)).drew
  have F2 := Lib.hid ((Fr.refl (chS L M) w).alloc (.cells #[.int .i64 j, .int .i64 ((-1 : Int)), .int .i64 ((b : Int))] 92)).drew
  have X2 := Lib.hid (Blk.new w [.int .i64 j, .int .i64 ((-1 : Int)), .int .i64 ((b : Int))] 92).drew
  have xM : M < w.heap.size := H.out.lM
  clear h0 f0 h1 f1 c0 d0 c1 d1 c2 d2 H
  go_upto_region 5 with (fail)
  generalize hw2 : (w.alloc (.cells #[.int .i64 j, .int .i64 ((-1 : Int)), .int .i64 ((b : Int))] 92)).drew = w2 at *
  have HW2 := Lib.hid hw2; clear hw2
  generalize hX : w.heap.size = X at *
  have HXs := Lib.hid hX; clear hX
  have dlm := H2.out.dlm
  have dpx : ¬ p = X := by omega
  have dlx : ¬ L = X := by omega
  have dmx : ¬ M = X := by omega
  have h0 : w2.cell? ⟨p, 0, none⟩ = some (.slice (some ⟨L, 0, none⟩) s.n s.n) := H2.out.pl.1
  have x1 : w2.cell? ⟨X, 1, none⟩ = some (.int .i64 ((-1 : Int))) := X2.out.at 1 rfl
  have x2 : w2.cell? ⟨X, 2, none⟩ = some (.int .i64 ((b : Int))) := X2.out.at 2 rfl
  obtain ⟨m0, n0⟩ := H2.out.he j 0 hj (by omega)
  rw [Nat.add_zero] at m0 n0
  go_upto_region 8 with (fail)
  clear h0 x1 x2 m0 n0
  have H3 := Lib.hid (H2.out.setE hj (f := 0) (by omega) rfl ((b : Int)))
  have F3 := Lib.hid (frM F2.out (o := j * 3) (.int .i64 ((b : Int))))
  have X3 := Lib.hid (X2.out.fr ((Fr.refl (chS L M) _).setCell (k := M) (o := j * 3) (fun _ => .inr rfl) (.int .i64 ((b : Int)))) (fun _ hs => by rcases hs with hs | hs <;> omega))
  clear H2 F2 X2
  generalize w2.setCell ⟨M, j * 3, none⟩ (.int .i64 ((b : Int))) = w3 at *
  have h0 : w3.cell? ⟨p, 0, none⟩ = some (.slice (some ⟨L, 0, none⟩) s.n s.n) := H3.out.pl.1
  have x1 : w3.cell? ⟨X, 1, none⟩ = some (.int .i64 ((-1 : Int))) := X3.out.at 1 rfl
  have x2 : w3.cell? ⟨X, 2, none⟩ = some (.int .i64 ((b : Int))) := X3.out.at 2 rfl
  go_wp2
  refine wp_region_still_tail 10 (by kernel_rfl) (by kernel_rfl) ?_
  simp only [World.drew_eq, List.take_succ_cons, List.take_zero, List.drop_succ_cons, List.drop_zero]
  repeat still_step
  refine wpStill_nil ?_
  change wpList _ _ _ _ _ _
  have H4 := Lib.hid H3.out.drew; have F4 := Lib.hid F3.out.drew; have X4 := Lib.hid X3.out.drew
  clear h0 x1 x2
  clear H3 F3 X3
  generalize w3.drew = w4 at *
  have x1 : w4.cell? ⟨X, 1, none⟩ = some (.int .i64 ((-1 : Int))) := X4.out.at 1 rfl
  have x2 : w4.cell? ⟨X, 2, none⟩ = some (.int .i64 ((b : Int))) := X4.out.at 2 rfl
  obtain ⟨cb, db⟩ := H4.out.hl b 1 hb (by omega)
  go_upto_region 11 with (fail)
  clear x1 x2 cb db
  have H5 := Lib.hid (H4.out.setL hb (f := 1) (by omega) rfl ((-1 : Int)))
  have F5 := Lib.hid (frL F4.out (o := b * 3 + 1) (.int .i64 ((-1 : Int))))
  have X5 := Lib.hid (X4.out.fr ((Fr.refl (chS L M) _).setCell (k := L) (o := b * 3 + 1) (fun _ => .inl rfl) (.int .i64 ((-1 : Int)))) (fun _ hs => by rcases hs with hs | hs <;> omega))
  clear H4 F4 X4
  generalize w4.setCell ⟨L, b * 3 + 1, none⟩ (.int .i64 ((-1 : Int))) = w5 at *
  have h0 : w5.cell? ⟨p, 0, none⟩ = some (.slice (some ⟨L, 0, none⟩) s.n s.n) := H5.out.pl.1
  obtain ⟨m2, n2⟩ := H5.out.he j 2 hj (by omega)
  replace m2 : w5.cell? ⟨M, j * 3 + 2, none⟩ = some (.int .i64 (s.en j 2)) := by simpa [Ch.setE, Ch.setL] using m2
  obtain ⟨c0, d0⟩ := H5.out.hl k 0 hk (by omega)
  obtain ⟨c1, d1⟩ := H5.out.hl k 1 hk (by omega)
  obtain ⟨c2, d2⟩ := H5.out.hl k 2 hk (by omega)
  rw [Nat.add_zero] at c0 d0
  go_wp2
  go_ret
  exact ⟨rfl, (((H5.out.setE hj (f := 2) (by omega) rfl (s.en j 2 - 1)).setL hk (f := 0) (by omega) rfl (-1)).setL hk (f := 1) (by omega) rfl (-1)).setL hk (f := 2) (by omega) rfl (-1), frL (frL (frL (frM F5.out _) _) _) _⟩

set_option maxHeartbeats 2000000 in
set_option maxRecDepth 100000 in
theorem pull_qn {w : World} {p L M : Nat} {s : Ch} (h : ChC w p L M s) (j k a : Nat) (hj : j < s.m) (hk : k < s.n) (hx : s.lk k 0 = j) (hp : s.lk k 1 = (a : Int)) (hn : s.lk k 2 = (-1 : Int)) (ha : a < s.n) (hak : a ≠ k) (hc : 0 < s.en j 2 ∧ s.en j 2 < 1000000) :
    Calls Try.prog 51 #[.pointer (some ⟨p, 0, none⟩), .int .i64 k] w fun e w' => e = .returned (.bool true) ∧ ChC w' p L M (s.pull j k) ∧ Fr (chS L M) w w' := by
  have hfin : s.pull j k = ((((((s.setL a 2 (-1 : Int)).setE j 1 (a : Int)).setE j 2 (s.en j 2 - 1)).setL k 0 (-1)).setL k 1 (-1)).setL k 2 (-1)) := by
    unfold Ch.pull Ch.pull2 Ch.pull1; rw [if_pos hn, if_neg (by omega), hp, hn]; rfl
  rw [hfin]
  clear hfin
  have hB : s.onB k = true := by unfold Ch.onB Ch.okK; simp [hk, hx] <;> omega
  have hV : s.onV k = j := by unfold Ch.onV; rw [hB, if_pos rfl, Int.toNat_natCast, hx]
  obtain ⟨h0, f0⟩ := h.pl
  obtain ⟨h1, f1⟩ := h.pm
  obtain ⟨c0, d0⟩ := h.hl k 0 hk (by omega)
  obtain ⟨c1, d1⟩ := h.hl k 1 hk (by omega)
  obtain ⟨c2, d2⟩ := h.hl k 2 hk (by omega)
  rw [Nat.add_zero] at c0 d0
  rw [hx] at c0; rw [hp] at c1; rw [hn] at c2
  have hb1 := h.bn; have hb2 := h.bm
  have H := Lib.hid h; have HX := Lib.hid hx; have HP := Lib.hid hp; have HN := Lib.hid hn
  clear hx hp hn
  have hab : ((a : Int) == -1) = false := beq_eq_false_iff_ne.mpr (by omega)
  go_enter Try.func51, Try.ntmps51
  go_wp2_with fail
  refine (on_c h k).mono ?_
  rintro e w' ⟨rfl, rfl⟩
  rw [hB, hV]
  clear h hB hV
  go_wp2
  have xp : p < w.heap.size := H.out.pl.lt
  have xL : L < w.heap.size := H.out.lL
  go_region_held3 (fun w' => w'.cell? ⟨p, 0, none⟩ = some (.slice (some ⟨L, 0, none⟩) s.n s.n) ∧ w'.cell? ⟨p, 1, none⟩ = some (.slice (some ⟨M, 0, none⟩) s.m s.m) ∧ w'.cell? ⟨L, k * 3, none⟩ = some (.int .i64 j) ∧ w'.cell? ⟨L, k * 3 + 1, none⟩ = some (.int .i64 (a : Int)) ∧ w'.cell? ⟨L, k * 3 + 2, none⟩ = some (.int .i64 (-1 : Int))) (go_keep) (fail)
  have H2 := Lib.hid (H.out.alloc (.cells #[.int .i64 j, .int .i64 ((a : Int)), .int .i64 ((-1 : Int))] 92)).drew
  have F2 := Lib.hid ((Fr.refl (chS L M) w).alloc (.cells #[.int .i64 j, .int .i64 ((a : Int)), .int .i64 ((-1 : Int))] 92)).drew
  have X2 := Lib.hid (Blk.new w [.int .i64 j, .int .i64 ((a : Int)), .int .i64 ((-1 : Int))] 92).drew
  have xM : M < w.heap.size := H.out.lM
  clear h0 f0 h1 f1 c0 d0 c1 d1 c2 d2 H
  go_upto_region 5 with (fail)
  generalize hw2 : (w.alloc (.cells #[.int .i64 j, .int .i64 ((a : Int)), .int .i64 ((-1 : Int))] 92)).drew = w2 at *
  have HW2 := Lib.hid hw2; clear hw2
  generalize hX : w.heap.size = X at *
  have HXs := Lib.hid hX; clear hX
  have dlm := H2.out.dlm
  have dpx : ¬ p = X := by omega
  have dlx : ¬ L = X := by omega
  have dmx : ¬ M = X := by omega
  have h0 : w2.cell? ⟨p, 0, none⟩ = some (.slice (some ⟨L, 0, none⟩) s.n s.n) := H2.out.pl.1
  have x1 : w2.cell? ⟨X, 1, none⟩ = some (.int .i64 ((a : Int))) := X2.out.at 1 rfl
  have x2 : w2.cell? ⟨X, 2, none⟩ = some (.int .i64 ((-1 : Int))) := X2.out.at 2 rfl
  go_wp2
  refine wp_region_still_tail 10 (by kernel_rfl) (by kernel_rfl) ?_
  simp only [World.drew_eq, List.take_succ_cons, List.take_zero, List.drop_succ_cons, List.drop_zero]
  repeat still_step
  refine wpStill_nil ?_
  change wpList _ _ _ _ _ _
  have H3 := Lib.hid H2.out.drew; have F3 := Lib.hid F2.out.drew; have X3 := Lib.hid X2.out.drew
  clear h0 x1 x2
  clear H2 F2 X2
  generalize w2.drew = w3 at *
  have x1 : w3.cell? ⟨X, 1, none⟩ = some (.int .i64 ((a : Int))) := X3.out.at 1 rfl
  have x2 : w3.cell? ⟨X, 2, none⟩ = some (.int .i64 ((-1 : Int))) := X3.out.at 2 rfl
  obtain ⟨ca, da⟩ := H3.out.hl a 2 ha (by omega)
  go_upto_region 8 with (fail)
  clear x1 x2 ca da
  have H4 := Lib.hid (H3.out.setL ha (f := 2) (by omega) rfl ((-1 : Int)))
  have F4 := Lib.hid (frL F3.out (o := a * 3 + 2) (.int .i64 ((-1 : Int))))
  have X4 := Lib.hid (X3.out.fr ((Fr.refl (chS L M) _).setCell (k := L) (o := a * 3 + 2) (fun _ => .inl rfl) (.int .i64 ((-1 : Int)))) (fun _ hs => by rcases hs with hs | hs <;> omega))
  clear H3 F3 X3
  generalize w3.setCell ⟨L, a * 3 + 2, none⟩ (.int .i64 ((-1 : Int))) = w4 at *
  have x1 : w4.cell? ⟨X, 1, none⟩ = some (.int .i64 ((a : Int))) := X4.out.at 1 rfl
  have x2 : w4.cell? ⟨X, 2, none⟩ = some (.int .i64 ((-1 : Int))) := X4.out.at 2 rfl
  obtain ⟨m1, n1⟩ := H4.out.he j 1 hj (by omega)
  go_upto_region 11 with (fail)
  clear x1 x2 m1 n1
  have H5 := Lib.hid (H4.out.setE hj (f := 1) (by omega) rfl ((a : Int)))
  have F5 := Lib.hid (frM F4.out (o := j * 3 + 1) (.int .i64 ((a : Int))))
  have X5 := Lib.hid (X4.out.fr ((Fr.refl (chS L M) _).setCell (k := M) (o := j * 3 + 1) (fun _ => .inr rfl) (.int .i64 ((a : Int)))) (fun _ hs => by rcases hs with hs | hs <;> omega))
  clear H4 F4 X4
  generalize w4.setCell ⟨M, j * 3 + 1, none⟩ (.int .i64 ((a : Int))) = w5 at *
  have h0 : w5.cell? ⟨p, 0, none⟩ = some (.slice (some ⟨L, 0, none⟩) s.n s.n) := H5.out.pl.1
  obtain ⟨m2, n2⟩ := H5.out.he j 2 hj (by omega)
  replace m2 : w5.cell? ⟨M, j * 3 + 2, none⟩ = some (.int .i64 (s.en j 2)) := by simpa [Ch.setE, Ch.setL] using m2
  obtain ⟨c0, d0⟩ := H5.out.hl k 0 hk (by omega)
  obtain ⟨c1, d1⟩ := H5.out.hl k 1 hk (by omega)
  obtain ⟨c2, d2⟩ := H5.out.hl k 2 hk (by omega)
  rw [Nat.add_zero] at c0 d0
  go_wp2
  go_ret
  exact ⟨rfl, (((H5.out.setE hj (f := 2) (by omega) rfl (s.en j 2 - 1)).setL hk (f := 0) (by omega) rfl (-1)).setL hk (f := 1) (by omega) rfl (-1)).setL hk (f := 2) (by omega) rfl (-1), frL (frL (frL (frM F5.out _) _) _) _⟩

set_option maxHeartbeats 2000000 in
set_option maxRecDepth 100000 in
theorem pull_qq {w : World} {p L M : Nat} {s : Ch} (h : ChC w p L M s) (j k a b : Nat) (hj : j < s.m) (hk : k < s.n) (hx : s.lk k 0 = j) (hp : s.lk k 1 = (a : Int)) (hn : s.lk k 2 = (b : Int)) (ha : a < s.n) (hak : a ≠ k) (hb : b < s.n) (hbk : b ≠ k) (hc : 0 < s.en j 2 ∧ s.en j 2 < 1000000) :
    Calls Try.prog 51 #[.pointer (some ⟨p, 0, none⟩), .int .i64 k] w fun e w' => e = .returned (.bool true) ∧ ChC w' p L M (s.pull j k) ∧ Fr (chS L M) w w' := by
  have hfin : s.pull j k = ((((((s.setL a 2 (b : Int)).setL b 1 (a : Int)).setE j 2 (s.en j 2 - 1)).setL k 0 (-1)).setL k 1 (-1)).setL k 2 (-1)) := by
    unfold Ch.pull Ch.pull2 Ch.pull1; rw [if_neg (by omega), if_neg (by omega), hp, hn]; rfl
  rw [hfin]
  clear hfin
  have hB : s.onB k = true := by unfold Ch.onB Ch.okK; simp [hk, hx] <;> omega
  have hV : s.onV k = j := by unfold Ch.onV; rw [hB, if_pos rfl, Int.toNat_natCast, hx]
  obtain ⟨h0, f0⟩ := h.pl
  obtain ⟨h1, f1⟩ := h.pm
  obtain ⟨c0, d0⟩ := h.hl k 0 hk (by omega)
  obtain ⟨c1, d1⟩ := h.hl k 1 hk (by omega)
  obtain ⟨c2, d2⟩ := h.hl k 2 hk (by omega)
  rw [Nat.add_zero] at c0 d0
  rw [hx] at c0; rw [hp] at c1; rw [hn] at c2
  have hb1 := h.bn; have hb2 := h.bm
  have H := Lib.hid h; have HX := Lib.hid hx; have HP := Lib.hid hp; have HN := Lib.hid hn
  clear hx hp hn
  have hab : ((a : Int) == -1) = false := beq_eq_false_iff_ne.mpr (by omega)
  have hbb : ((b : Int) == -1) = false := beq_eq_false_iff_ne.mpr (by omega)
  go_enter Try.func51, Try.ntmps51
  go_wp2_with fail
  refine (on_c h k).mono ?_
  rintro e w' ⟨rfl, rfl⟩
  rw [hB, hV]
  clear h hB hV
  go_wp2
  have xp : p < w.heap.size := H.out.pl.lt
  have xL : L < w.heap.size := H.out.lL
  go_region_held3 (fun w' => w'.cell? ⟨p, 0, none⟩ = some (.slice (some ⟨L, 0, none⟩) s.n s.n) ∧ w'.cell? ⟨p, 1, none⟩ = some (.slice (some ⟨M, 0, none⟩) s.m s.m) ∧ w'.cell? ⟨L, k * 3, none⟩ = some (.int .i64 j) ∧ w'.cell? ⟨L, k * 3 + 1, none⟩ = some (.int .i64 (a : Int)) ∧ w'.cell? ⟨L, k * 3 + 2, none⟩ = some (.int .i64 (b : Int))) (go_keep) (fail)
  have H2 := Lib.hid (H.out.alloc (.cells #[.int .i64 j, .int .i64 ((a : Int)), .int .i64 ((b : Int))] 92)).drew
  have F2 := Lib.hid ((Fr.refl (chS L M) w).alloc (.cells #[.int .i64 j, .int .i64 ((a : Int)), .int .i64 ((b : Int))] 92)).drew
  have X2 := Lib.hid (Blk.new w [.int .i64 j, .int .i64 ((a : Int)), .int .i64 ((b : Int))] 92).drew
  have xM : M < w.heap.size := H.out.lM
  clear h0 f0 h1 f1 c0 d0 c1 d1 c2 d2 H
  go_upto_region 5 with (fail)
  generalize hw2 : (w.alloc (.cells #[.int .i64 j, .int .i64 ((a : Int)), .int .i64 ((b : Int))] 92)).drew = w2 at *
  have HW2 := Lib.hid hw2; clear hw2
  generalize hX : w.heap.size = X at *
  have HXs := Lib.hid hX; clear hX
  have dlm := H2.out.dlm
  have dpx : ¬ p = X := by omega
  have dlx : ¬ L = X := by omega
  have dmx : ¬ M = X := by omega
  have h0 : w2.cell? ⟨p, 0, none⟩ = some (.slice (some ⟨L, 0, none⟩) s.n s.n) := H2.out.pl.1
  have x1 : w2.cell? ⟨X, 1, none⟩ = some (.int .i64 ((a : Int))) := X2.out.at 1 rfl
  have x2 : w2.cell? ⟨X, 2, none⟩ = some (.int .i64 ((b : Int))) := X2.out.at 2 rfl
  go_wp2
  refine wp_region_still_tail 10 (by kernel_rfl) (by kernel_rfl) ?_
  simp only [World.drew_eq, List.take_succ_cons, List.take_zero, List.drop_succ_cons, List.drop_zero]
  repeat still_step
  refine wpStill_nil ?_
  change wpList _ _ _ _ _ _
  have H3 := Lib.hid H2.out.drew; have F3 := Lib.hid F2.out.drew; have X3 := Lib.hid X2.out.drew
  clear h0 x1 x2
  clear H2 F2 X2
  generalize w2.drew = w3 at *
  have x1 : w3.cell? ⟨X, 1, none⟩ = some (.int .i64 ((a : Int))) := X3.out.at 1 rfl
  have x2 : w3.cell? ⟨X, 2, none⟩ = some (.int .i64 ((b : Int))) := X3.out.at 2 rfl
  obtain ⟨ca, da⟩ := H3.out.hl a 2 ha (by omega)
  go_upto_region 8 with (fail)
  clear x1 x2 ca da
  have H4 := Lib.hid (H3.out.setL ha (f := 2) (by omega) rfl ((b : Int)))
  have F4 := Lib.hid (frL F3.out (o := a * 3 + 2) (.int .i64 ((b : Int))))
  have X4 := Lib.hid (X3.out.fr ((Fr.refl (chS L M) _).setCell (k := L) (o := a * 3 + 2) (fun _ => .inl rfl) (.int .i64 ((b : Int)))) (fun _ hs => by rcases hs with hs | hs <;> omega))
  clear H3 F3 X3
  generalize w3.setCell ⟨L, a * 3 + 2, none⟩ (.int .i64 ((b : Int))) = w4 at *
  have h0 : w4.cell? ⟨p, 0, none⟩ = some (.slice (some ⟨L, 0, none⟩) s.n s.n) := H4.out.pl.1
  have x1 : w4.cell? ⟨X, 1, none⟩ = some (.int .i64 ((a : Int))) := X4.out.at 1 rfl
  have x2 : w4.cell? ⟨X, 2, none⟩ = some (.int .i64 ((b : Int))) := X4.out.at 2 rfl
  go_wp2
  refine wp_region_still_tail 10 (by kernel_rfl) (by kernel_rfl) ?_
  simp only [World.drew_eq, List.take_succ_cons, List.take_zero, List.drop_succ_cons, List.drop_zero]
  repeat still_step
  refine wpStill_nil ?_
  change wpList _ _ _ _ _ _
  have H5 := Lib.hid H4.out.drew; have F5 := Lib.hid F4.out.drew; have X5 := Lib.hid X4.out.drew
  clear h0 x1 x2
  clear H4 F4 X4
  generalize w4.drew = w5 at *
  have x1 : w5.cell? ⟨X, 1, none⟩ = some (.int .i64 ((a : Int))) := X5.out.at 1 rfl
  have x2 : w5.cell? ⟨X, 2, none⟩ = some (.int .i64 ((b : Int))) := X5.out.at 2 rfl
  obtain ⟨cb, db⟩ := H5.out.hl b 1 hb (by omega)
  go_upto_region 11 with (fail)
  clear x1 x2 cb db
  have H6 := Lib.hid (H5.out.setL hb (f := 1) (by omega) rfl ((a : Int)))
  have F6 := Lib.hid (frL F5.out (o := b * 3 + 1) (.int .i64 ((a : Int))))
  have X6 := Lib.hid (X5.out.fr ((Fr.refl (chS L M) _).setCell (k := L) (o := b * 3 + 1) (fun _ => .inl rfl) (.int .i64 ((a : Int)))) (fun _ hs => by rcases hs with hs | hs <;> omega))
  clear H5 F5 X5
  generalize w5.setCell ⟨L, b * 3 + 1, none⟩ (.int .i64 ((a : Int))) = w6 at *
  have h0 : w6.cell? ⟨p, 0, none⟩ = some (.slice (some ⟨L, 0, none⟩) s.n s.n) := H6.out.pl.1
  obtain ⟨m2, n2⟩ := H6.out.he j 2 hj (by omega)
  replace m2 : w6.cell? ⟨M, j * 3 + 2, none⟩ = some (.int .i64 (s.en j 2)) := by simpa [Ch.setE, Ch.setL] using m2
  obtain ⟨c0, d0⟩ := H6.out.hl k 0 hk (by omega)
  obtain ⟨c1, d1⟩ := H6.out.hl k 1 hk (by omega)
  obtain ⟨c2, d2⟩ := H6.out.hl k 2 hk (by omega)
  rw [Nat.add_zero] at c0 d0
  go_wp2
  go_ret
  exact ⟨rfl, (((H6.out.setE hj (f := 2) (by omega) rfl (s.en j 2 - 1)).setL hk (f := 0) (by omega) rfl (-1)).setL hk (f := 1) (by omega) rfl (-1)).setL hk (f := 2) (by omega) rfl (-1), frL (frL (frL (frM F6.out _) _) _) _⟩
end Go.Proofs.Ytblapbnplflghaa
