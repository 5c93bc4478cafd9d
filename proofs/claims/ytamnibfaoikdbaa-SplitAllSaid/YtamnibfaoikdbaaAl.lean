/- The document's example of scripts. -/
import Derived.Test.YtamnibfaoikdbaaWe
import Derived.Deep.RegionHeld3
import Derived.Deep.RegionWith
namespace Go.Proofs.Ytamnibfaoikdbaa
open Go.RowKit
set_option linter.unusedVariables false
set_option linter.unusedSimpArgs false
set_option maxRecDepth 100000

def eA : En := ⟨2, 1, 0, 0, 0, 0, 0, 0, 1⟩
def eB : En := ⟨2, 2, 0, 0, 0, 0, 0, 0, 1⟩
def exL : List En := [tk 60, eA, tk 60, eB, tk 50]
theorem ex_p : exL.filter (seesB 1) = [tk 60, eA, tk 60, tk 50] := by decide
theorem ex_o : exL.filter (blindB 1) = [eB] := by decide
theorem ex_s : sqGo 0 [tk 60, eA, tk 60, tk 50] = [tk 60, eA, tk 100, tk 10] := by
  have h1 : stepsN 60 = [tk 60] := steps_small (by omega) (by omega)
  have h2 : stepsN 110 = [tk 100, tk 10] := by rw [steps_big (by omega), steps_small (by omega) (by omega)]; rfl
  simp only [sqGo, tk, eA]
  simp only [if_true]
  rw [if_neg (by decide)]
  simp only [show (0 : Nat) + Int.toNat 60 = 60 from rfl, show (60 : Nat) + Int.toNat 50 = 110 from rfl, h1, h2]
  rfl
theorem ex_w : weaveGo [false] [eA] [eB] = [eB, eA] := by simp [weaveGo]
theorem ex_t : ticksV exL = 170 := by decide

theorem RowAt.en0 {w : World} {b : Nat} {e : En} {t : List En} (h : RowAt En.cells 9 w (some ⟨b, 0, none⟩) (e :: t)) : w.cell? ⟨b, 0, none⟩ = some (.int .i64 e.kind) ∧ w.cell? ⟨b, 1, none⟩ = some (.int .i64 e.who) ∧ w.cell? ⟨b, 2, none⟩ = some (.int .i64 e.n) ∧ w.cell? ⟨b, 3, none⟩ = some (.int .i64 e.call_Op) ∧ w.cell? ⟨b, 4, none⟩ = some (.int .u64 e.call_A) ∧ w.cell? ⟨b, 5, none⟩ = some (.int .u64 e.call_B) ∧ w.cell? ⟨b, 6, none⟩ = some (.int .u64 e.call_C) ∧ w.cell? ⟨b, 7, none⟩ = some (.int .i64 e.dev) ∧ w.cell? ⟨b, 8, none⟩ = some (.int .i64 e.mask) := by
  obtain ⟨b', off, e1, _, c0, c1, c2, c3, c4, c5, c6, c7, c8⟩ := h.en (i := 0) (by simp)
  injection e1 with e1
  injection e1 with e1 e2
  subst e1; subst e2
  exact ⟨c0, c1, c2, c3, c4, c5, c6, c7, c8⟩
theorem rowAt_drew {w : World} {A : Option Addr} {ys : List En} (h : RowAt enE.f enE.sz w A ys) : RowAt enE.f enE.sz w.drew A ys := h
theorem boolRow1 {B : Nat} (w : World) (f : Bool) (hB : B = w.heap.size) : RowAt (fun x : Bool => [Value.bool x]) 1 (w.alloc (.cells #[.bool f] 4)) (some ⟨B, 0, none⟩) [f] := by
  subst hB
  intro i hi
  obtain rfl : i = 0 := by simpa using hi
  refine ⟨w.heap.size, 0, rfl, by simp, fun j v hj => ?_⟩
  obtain rfl : j = 0 := by
    rcases j with _ | j
    · rfl
    · simp at hj
  simp at hj
  subst hj
  exact (Cel.new w #[.bool f] 4 0 _ rfl).1
set_option maxHeartbeats 8000000 in
theorem alive18_c (w : World) : Calls Try.prog 21 #[] w fun r w' => r = .returned (.bool true) ∧ Below w.heap.size w w' := by
  go_enter Try.func21, Try.ntmps21
  go_wp2_with fail
  refine (project_c (xs := exL) (rowAt_newB (E := enE) _ _ _ exL (by simp) rfl) (by decide) 1).mono ?_
  rintro r w1 ⟨v1, rfl, P1, B1⟩
  rw [ex_p] at P1
  have RA := Lib.hid ((rowAt_alloc (E := enE) (rowAt_alloc (E := enE) (rowAt_new1 (E := enE) w eA.cells.toArray 47 eA rfl rfl) (.cells eB.cells.toArray 47)) _).below B1)
  have RB := Lib.hid ((rowAt_alloc (E := enE) (rowAt_new1 (E := enE) (B := w.heap.size + 1) (w.alloc (.cells eA.cells.toArray 47)) eB.cells.toArray 47 eB (by simp) rfl) _).below B1)
  have RL := Lib.hid ((rowAt_newB (E := enE) (B := w.heap.size + 1 + 1) ((w.alloc (.cells eA.cells.toArray 47)).alloc (.cells eB.cells.toArray 47)) _ _ exL (by simp) rfl).below B1)
  have HB1 : Below w.heap.size w w1 := (Below.alloc (Below.alloc (Below.alloc (Below.refl w.heap.size w) (Nat.le_refl _) _) (by simp) _) (by simp; omega) _).trans (B1.mono (by simp; omega))
  replace HB1 := Lib.hid HB1
  clear B1
  obtain ⟨A1, k1, rfl, _⟩ := P1.slice
  have R1 := P1.row.1
  replace R1 := Lib.hid R1
  clear P1
  go_wp2_with fail
  refine (squeeze_c (xs := [tk 60, eA, tk 60, tk 50]) R1.out (by decide) (by unfold okT; decide)).mono ?_
  rintro r w2 ⟨v2, rfl, P2, B2⟩
  rw [ex_s] at P2
  replace RA := Lib.hid (RA.out.below B2); replace RB := Lib.hid (RB.out.below B2); replace RL := Lib.hid (RL.out.below B2); replace R1 := Lib.hid (R1.out.below B2)
  have HB2 := Lib.hid (HB1.out.trans (B2.mono HB1.out.size))
  obtain ⟨A2, k2, rfl, _⟩ := P2.slice
  have R2 := P2.row.1
  replace R2 := Lib.hid R2
  clear B2 HB1 P2
  have ca := RA.out.en0
  have cb := RB.out.en0
  simp only [eA, eB] at ca cb
  obtain ⟨a0, a1, a2, a3, a4, a5, a6, a7, a8⟩ := ca
  obtain ⟨b0, b1, b2, b3, b4, b5, b6, b7, b8⟩ := cb
  have lt1 : w.heap.size + 1 < w2.heap.size := World.block_lt_of_cell? w2 _ b0
  have lt0 : w.heap.size < w2.heap.size := by omega
  go_wp2_with fail
  have QA := rowAt_alloc (E := enE) (rowAt_alloc (E := enE) (rowAt_new1 (E := enE) w2 eA.cells.toArray 47 eA rfl rfl) (.cells eB.cells.toArray 47)) (.cells #[.bool false] 4)
  have QB := rowAt_alloc (E := enE) (rowAt_new1 (E := enE) (B := w2.heap.size + 1) (w2.alloc (.cells eA.cells.toArray 47)) eB.cells.toArray 47 eB (by simp) rfl) (.cells #[.bool false] 4)
  refine (weave_c (al := [eA]) (bl := [eB]) (ts := [false]) QA QB (boolRow1 (B := w2.heap.size + 1 + 1) _ false (by simp)) (by decide) (by decide) (by decide) (by decide) (by decide)).mono ?_
  rintro r w3 ⟨v3, rfl, P3, B3'⟩
  have B3 : Below w2.heap.size w2 w3 := (Below.alloc (Below.alloc (Below.alloc (Below.refl w2.heap.size w2) (Nat.le_refl _) _) (by simp) _) (by simp; omega) _).trans (B3'.mono (by simp; omega))
  rw [ex_w] at P3
  replace RA := Lib.hid (RA.out.below B3); replace RB := Lib.hid (RB.out.below B3); replace RL := Lib.hid (RL.out.below B3); replace R1 := Lib.hid (R1.out.below B3); replace R2 := Lib.hid (R2.out.below B3)
  have HB3 := Lib.hid (HB2.out.trans (B3.mono HB2.out.size))
  obtain ⟨A3, k3, rfl, _⟩ := P3.slice
  have R3 := P3.row.1
  replace R3 := Lib.hid R3
  clear B3 B3' HB2 P3 QA QB
  clear a0 a1 a2 a3 a4 a5 a6 a7 a8 b0 b1 b2 b3 b4 b5 b6 b7 b8 lt0 lt1
  have ca := RA.out.en0
  have cb := RB.out.en0
  simp only [eA, eB] at ca cb
  obtain ⟨a0, a1, a2, a3, a4, a5, a6, a7, a8⟩ := ca
  obtain ⟨b0, b1, b2, b3, b4, b5, b6, b7, b8⟩ := cb
  have lt1 : w.heap.size + 1 < w3.heap.size := World.block_lt_of_cell? w3 _ b0
  have lt0 : w.heap.size < w3.heap.size := by omega
  have key : Hid (∀ (X : World), Below w3.heap.size w3 X → (fun w' : World => w'.cell? ⟨w.heap.size, 0, none⟩ = some (.int .i64 2) ∧ w'.cell? ⟨w.heap.size, 1, none⟩ = some (.int .i64 1) ∧ w'.cell? ⟨w.heap.size, 2, none⟩ = some (.int .i64 0) ∧ w'.cell? ⟨w.heap.size, 3, none⟩ = some (.int .i64 0) ∧ w'.cell? ⟨w.heap.size, 4, none⟩ = some (.int .u64 0) ∧ w'.cell? ⟨w.heap.size, 5, none⟩ = some (.int .u64 0) ∧ w'.cell? ⟨w.heap.size, 6, none⟩ = some (.int .u64 0) ∧ w'.cell? ⟨w.heap.size, 7, none⟩ = some (.int .i64 0) ∧ w'.cell? ⟨w.heap.size, 8, none⟩ = some (.int .i64 1) ∧ w'.cell? ⟨w.heap.size + 1, 0, none⟩ = some (.int .i64 2) ∧ w'.cell? ⟨w.heap.size + 1, 1, none⟩ = some (.int .i64 2) ∧ w'.cell? ⟨w.heap.size + 1, 2, none⟩ = some (.int .i64 0) ∧ w'.cell? ⟨w.heap.size + 1, 3, none⟩ = some (.int .i64 0) ∧ w'.cell? ⟨w.heap.size + 1, 4, none⟩ = some (.int .u64 0) ∧ w'.cell? ⟨w.heap.size + 1, 5, none⟩ = some (.int .u64 0) ∧ w'.cell? ⟨w.heap.size + 1, 6, none⟩ = some (.int .u64 0) ∧ w'.cell? ⟨w.heap.size + 1, 7, none⟩ = some (.int .i64 0) ∧ w'.cell? ⟨w.heap.size + 1, 8, none⟩ = some (.int .i64 1)) X) := Lib.hid fun X hx => by
    refine ⟨?_, ?_, ?_, ?_, ?_, ?_, ?_, ?_, ?_, ?_, ?_, ?_, ?_, ?_, ?_, ?_, ?_, ?_⟩
    all_goals first
      | (rw [hx.cell (p := ⟨w.heap.size, _, none⟩) lt0]; assumption)
      | (rw [hx.cell (p := ⟨w.heap.size + 1, _, none⟩) lt1]; assumption)
  go_wp2_with fail
  clear a0 a1 a2 a3 a4 a5 a6 a7 a8 b0 b1 b2 b3 b4 b5 b6 b7 b8
  have HZ := Lib.hid (Below.refl w3.heap.size w3)
  go_region_held3 (fun w' => w'.cell? ⟨w.heap.size, 0, none⟩ = some (.int .i64 2) ∧ w'.cell? ⟨w.heap.size, 1, none⟩ = some (.int .i64 1) ∧ w'.cell? ⟨w.heap.size, 2, none⟩ = some (.int .i64 0) ∧ w'.cell? ⟨w.heap.size, 3, none⟩ = some (.int .i64 0) ∧ w'.cell? ⟨w.heap.size, 4, none⟩ = some (.int .u64 0) ∧ w'.cell? ⟨w.heap.size, 5, none⟩ = some (.int .u64 0) ∧ w'.cell? ⟨w.heap.size, 6, none⟩ = some (.int .u64 0) ∧ w'.cell? ⟨w.heap.size, 7, none⟩ = some (.int .i64 0) ∧ w'.cell? ⟨w.heap.size, 8, none⟩ = some (.int .i64 1) ∧ w'.cell? ⟨w.heap.size + 1, 0, none⟩ = some (.int .i64 2) ∧ w'.cell? ⟨w.heap.size + 1, 1, none⟩ = some (.int .i64 2) ∧ w'.cell? ⟨w.heap.size + 1, 2, none⟩ = some (.int .i64 0) ∧ w'.cell? ⟨w.heap.size + 1, 3, none⟩ = some (.int .i64 0) ∧ w'.cell? ⟨w.heap.size + 1, 4, none⟩ = some (.int .u64 0) ∧ w'.cell? ⟨w.heap.size + 1, 5, none⟩ = some (.int .u64 0) ∧ w'.cell? ⟨w.heap.size + 1, 6, none⟩ = some (.int .u64 0) ∧ w'.cell? ⟨w.heap.size + 1, 7, none⟩ = some (.int .i64 0) ∧ w'.cell? ⟨w.heap.size + 1, 8, none⟩ = some (.int .i64 1)) (first | exact key.out _ HX9 | exact key.out _ HX8 | exact key.out _ (Below.alloc HX7 HX7.size _) | exact key.out _ HX7 | exact key.out _ (Below.alloc HX6 HX6.size _) | exact key.out _ HX6 | exact key.out _ (Below.alloc HX5 HX5.size _) | exact key.out _ HX5 | exact key.out _ (Below.alloc HX4 HX4.size _) | exact key.out _ HX4 | exact key.out _ (Below.alloc HZ.out (Nat.le_refl _) _) | exact key.out _ ((Below.alloc HZ.out (Nat.le_refl _) _).drewN 1) | exact key.out _ HZ.out | exact key.out _ (HZ.out.drewN 1)) (first
    | (go_at_call_of 26 A1; refine (same15_c (xs := [tk 60, eA, tk 60, tk 50]) (ys := [tk 60, eA, tk 60, tk 50]) ?_ ?_ (by decide) (by decide)).mono ?_; exact rowAt_drew (rowAt_alloc (E := enE) R1.out _); exact rowAt_drew (rowAt_newB (E := enE) w3 _ _ [tk 60, eA, tk 60, tk 50] rfl rfl); rintro x w4 ⟨rfl, F4⟩; have HX4 : Below w3.heap.size w3 w4 := ((Below.alloc HZ.out (Nat.le_refl _) _).drewN 1).trans (F4.mono (by simp)))
    | (go_at_call 24; refine (others_c (xs := exL) (by first | exact RL.out.below HX4 | exact rowAt_alloc (E := enE) (RL.out.below HX4) _) (by decide) 1).mono ?_; rintro x w5 ⟨v5, rfl, P5, F5⟩; rw [ex_o] at P5; obtain ⟨A5, k5, rfl, -⟩ := P5.slice; first | (have HX5 : Below w3.heap.size w3 w5 := HX4.trans (F5.mono HX4.size)) | (have HX5 : Below w3.heap.size w3 w5 := (Below.alloc HX4 HX4.size _).trans (F5.mono (by have := HX4.size; simp; omega)); have QB := (rowAt_newB (E := enE) w4 _ _ [eB] rfl rfl).below F5))
    | (go_at_call_of 26 A5; refine (same15_c (xs := [eB]) (ys := [eB]) (by first | exact rowAt_alloc (E := enE) P5.row.1 _ | exact P5.row.1) (by first | exact rowAt_newB (E := enE) w5 _ _ [eB] rfl rfl | exact QB) (by decide) (by decide)).mono ?_; rintro x w6 ⟨rfl, F6⟩; first | (have HX6 : Below w3.heap.size w3 w6 := (Below.alloc HX5 HX5.size _).trans (F6.mono (by have := HX5.size; simp; omega))) | (have HX6 : Below w3.heap.size w3 w6 := HX5.trans (F6.mono HX5.size)))
    | (go_at_call_of 26 A2; refine (same15_c (xs := [tk 60, eA, tk 100, tk 10]) (ys := [tk 60, eA, tk 100, tk 10]) (rowAt_alloc (E := enE) (R2.out.below HX6) _) (rowAt_newB (E := enE) w6 _ _ [tk 60, eA, tk 100, tk 10] rfl rfl) (by decide) (by decide)).mono ?_; rintro x w7 ⟨rfl, F7⟩; have HX7 : Below w3.heap.size w3 w7 := (Below.alloc HX6 HX6.size _).trans (F7.mono (by have := HX6.size; simp; omega)))
    | (go_at_call_of 26 A3; refine (same15_c (xs := [eB, eA]) (ys := [eB, eA]) (rowAt_alloc (E := enE) (R3.out.below HX7) _) (rowAt_newB (E := enE) w7 _ _ [eB, eA] rfl rfl) (by decide) (by decide)).mono ?_; rintro x w8 ⟨rfl, F8⟩; have HX8 : Below w3.heap.size w3 w8 := (Below.alloc HX7 HX7.size _).trans (F8.mono (by have := HX7.size; simp; omega)))
    | (go_at_call 29; refine (ticks_c (xs := exL) (RL.out.below HX8) (by decide)).mono ?_; rintro x w9 ⟨rfl, F9⟩; rw [ex_t]; have HX9 : Below w3.heap.size w3 w9 := HX8.trans (F9.mono HX8.size))
    | fail)
  all_goals
    have HBx := Lib.hid (HB3.out.trans (HX9.mono HB3.out.size))
    clear HX4 HX5 HX6 HX7 HX8 HX9 F4 F5 F6 F7 F8 F9
    go_wp2
  all_goals go_ret
  all_goals exact ⟨rfl, HBx.out⟩
end Go.Proofs.Ytamnibfaoikdbaa
