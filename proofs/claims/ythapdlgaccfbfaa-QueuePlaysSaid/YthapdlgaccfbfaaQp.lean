/- QueuePlays: a queue is the document's. -/
import Derived.Test.YthapdlgaccfbfaaR12q
import Derived.Test.YthapdlgaccfbfaaFe
namespace Go.Proofs.Ythapdlgaccfbfaa
open Go.RowKit
set_option linter.unusedVariables false
set_option linter.unusedSimpArgs false
set_option linter.unusedSectionVars false
set_option maxRecDepth 100000

theorem bln2 {B : Nat} {w a : World} (h : Below B w a) (n : Nat) : Below B w (a.drewN n) := ⟨h.os, h.tape, h.output, h.size, h.block⟩
theorem Cel.bel2 {w w' : World} {b o : Nat} {v : Value} (h : Cel w b o v) (hb : Below w.heap.size w w') : Cel w' b o v := h.low hb h.lt
theorem rheldN {w : World} {base c n t d mo : Nat} {A : Option Addr} {T : List Th} (h : OwnE trE w base (.slice A n c) T) (hn : n = T.length) (hl : n ≤ 4096) :
    Calls Try.prog 27 #[quV t d mo (.slice A n c)] w fun e w' => e = .returned (.int .i64 (heldT T)) ∧ Below w.heap.size w w' := by subst hn; exact rheldQ_c h hl
theorem rhasN {w : World} {base c n t d mo : Nat} {A : Option Addr} {T : List Th} (h : OwnE trE w base (.slice A n c) T) (hn : n = T.length) (hl : n ≤ 4096) (x : Th) :
    Calls Try.prog 26 #[quV t d mo (.slice A n c), thV x] w fun e w' => e = .returned (.bool (decide (x ∈ T))) ∧ Below w.heap.size w w' := by subst hn; exact rhasQ_c h hl x

set_option maxHeartbeats 8000000 in
theorem same12_c {w : World} {q p L M t d mo base c : Nat} {A : Option Addr} {T : List Th} (h : QS w q p L M t d mo T) (hO : OwnE trE w base (.slice A T.length c) T) (x : Th) :
    Calls Try.prog 16 #[.pointer (some ⟨q, 0, none⟩), quV t d mo (.slice A T.length c), thV x] w fun e w' => e = .returned (.bool true) ∧ Below w.heap.size w w' := by
  have hl := h.len
  have B1 := Below.alloc (Below.refl w.heap.size w) (Nat.le_refl _) (quC t d mo (.slice A T.length c))
  have B2 := Lib.hid (Below.alloc B1 B1.size (.cells #[.int .i64 x.1, .int .i64 x.2] 27))
  have O := Lib.hid ((hO.alloc (quC t d mo (.slice A T.length c))).alloc (.cells #[.int .i64 x.1, .int .i64 x.2] 27))
  have S := Lib.hid (h.below B2.out)
  clear h hO B1
  go_enter Try.func16, Try.ntmps16
  go_upto_region 1 with fail
  have c0 := (Cel.new w #[.int .i64 t, .int .i64 d, .int .i64 mo, .slice A T.length c] 36 0 (.int .i64 t) rfl).alloc (.cells #[.int .i64 x.1, .int .i64 x.2] 27)
  have c1 := (Cel.new w #[.int .i64 t, .int .i64 d, .int .i64 mo, .slice A T.length c] 36 1 (.int .i64 d) rfl).alloc (.cells #[.int .i64 x.1, .int .i64 x.2] 27)
  have c2 := (Cel.new w #[.int .i64 t, .int .i64 d, .int .i64 mo, .slice A T.length c] 36 2 (.int .i64 mo) rfl).alloc (.cells #[.int .i64 x.1, .int .i64 x.2] 27)
  have c3 := (Cel.new w #[.int .i64 t, .int .i64 d, .int .i64 mo, .slice A T.length c] 36 3 (.slice A T.length c) rfl).alloc (.cells #[.int .i64 x.1, .int .i64 x.2] 27)
  have y := fun j u hu => Cel.new (w.alloc (quC t d mo (.slice A T.length c))) #[.int .i64 x.1, .int .i64 x.2] 27 j u hu
  rw [show (w.alloc (quC t d mo (.slice A T.length c))).heap.size = w.heap.size + 1 by simp] at y
  replace c0 := Lib.hid c0; replace c1 := Lib.hid c1; replace c2 := Lib.hid c2; replace c3 := Lib.hid c3
  have y0 := Lib.hid (y 0 _ rfl); have y1 := Lib.hid (y 1 _ rfl)
  clear y
  generalize (w.alloc (.cells #[.int .i64 t, .int .i64 d, .int .i64 mo, .slice A T.length c] 36)).alloc (.cells #[.int .i64 x.1, .int .i64 x.2] 27) = W at *
  obtain ⟨n, hn⟩ : ∃ n, n = T.length := ⟨_, rfl⟩
  rw [← hn] at hl ⊢
  have hnH := Lib.hid hn
  go_upto_region 2 with (first | (go_at_call 18; with_reducible refine (allQ_c S.out).mono ?_; rintro e w1 ⟨v, rfl, G, F⟩; replace G := Lib.hid G; replace F := Lib.hid F) | fail)
  obtain ⟨AL, cL, rfl, -⟩ := G.out.slice
  rw [← hn] at G ⊢
  have S1 := Lib.hid (S.out.below F.out)
  have O1 := Lib.hid (O.out.below F.out)
  rw [← hn] at O1
  have HB := Lib.hid (B2.out.trans (F.out.mono B2.out.size))
  obtain ⟨hd, hhd⟩ : ∃ hd, hd = heldT T := ⟨_, rfl⟩
  obtain ⟨be, hbe⟩ : ∃ be, be = decide (x ∈ T) := ⟨_, rfl⟩
  have x1 : (be != be) = false := by simp
  have nn : Nonempty (Sin (fun X => Below w1.heap.size w1 X)) := ⟨⟨w1, Below.refl _ _⟩⟩
  have q0 : ∀ u : Sin (fun X => Below w1.heap.size w1 X), u.X.cell? ⟨w.heap.size, 0, none⟩ = some (.int .i64 t) := fun u => ((c0.out.low F.out c0.out.lt).bel2 u.h).1
  have q1 : ∀ u : Sin (fun X => Below w1.heap.size w1 X), u.X.cell? ⟨w.heap.size, 1, none⟩ = some (.int .i64 d) := fun u => ((c1.out.low F.out c1.out.lt).bel2 u.h).1
  have q2 : ∀ u : Sin (fun X => Below w1.heap.size w1 X), u.X.cell? ⟨w.heap.size, 2, none⟩ = some (.int .i64 mo) := fun u => ((c2.out.low F.out c2.out.lt).bel2 u.h).1
  have q3 : ∀ u : Sin (fun X => Below w1.heap.size w1 X), u.X.cell? ⟨w.heap.size, 3, none⟩ = some (.slice A n c) := fun u => by rw [hn]; exact ((c3.out.low F.out c3.out.lt).bel2 u.h).1
  have q4 : ∀ u : Sin (fun X => Below w1.heap.size w1 X), u.X.cell? ⟨w.heap.size + 1, 0, none⟩ = some (.int .i64 x.1) := fun u => ((y0.out.low F.out y0.out.lt).bel2 u.h).1
  have q5 : ∀ u : Sin (fun X => Below w1.heap.size w1 X), u.X.cell? ⟨w.heap.size + 1, 1, none⟩ = some (.int .i64 x.2) := fun u => ((y1.out.low F.out y1.out.lt).bel2 u.h).1
  have QW : Hid (∀ u : Sin (fun X => Below w1.heap.size w1 X), QS u.X q p L M t d mo T) := Lib.hid fun u => S1.out.below u.h
  have OW : Hid (∀ u : Sin (fun X => Below w1.heap.size w1 X), OwnE trE u.X base (.slice A n c) T) := Lib.hid fun u => O1.out.below u.h
  have HT : Hid (∀ (u : Sin (fun X => Below w1.heap.size w1 X)) (X : World), Below u.X.heap.size u.X X → Below w1.heap.size w1 X) := Lib.hid fun u X h => u.h.trans (h.mono u.h.size)
  replace hn := Lib.hid hn; replace hhd := Lib.hid hhd; replace hbe := Lib.hid hbe
  refine wp_region_sin (fun X => Below w1.heap.size w1 X) (blD (Below.refl _ _)) (by kernel_rfl) (by kernel_rfl) ?_
  repeat (go_big_quiet_step (first
    | exact Calls.sin (lenQ_c (QW.out _)) (fun e w' h => ⟨by rw [h.1, ← hn.out], by rw [← h.2]; exact Sin.h _⟩)
    | exact Calls.sin (devsQ_c (QW.out _)) (fun e w' h => ⟨by rw [h.1, ← hhd.out], by rw [← h.2]; exact Sin.h _⟩)
    | exact Calls.sin (rheldN (OW.out _) hn.out hl) (fun e w' h => ⟨by rw [h.1, ← hhd.out], HT.out _ _ h.2⟩)
    | exact Calls.sin (hasQ_c (QW.out _) x) (fun e w' h => ⟨by rw [h.1, ← hbe.out], HT.out _ _ h.2⟩)
    | exact Calls.sin (rhasN (OW.out _) hn.out hl x) (fun e w' h => ⟨by rw [h.1, ← hbe.out], HT.out _ _ h.2⟩)
    | fail))
  refine wpQuiet_nil ?_
  rintro _ ⟨u, rfl⟩
  have hX := Lib.hid u.h
  have r3 := Lib.hid (fun (X : World) (h : Below w1.heap.size w1 X) => q3 ⟨X, h⟩)
  have OX := Lib.hid (fun (X : World) (h : Below w1.heap.size w1 X) => OW.out ⟨X, h⟩)
  have GX := Lib.hid (fun (X : World) (h : Below w1.heap.size w1 X) => G.out.below h)
  dsimp only at r3 OX
  clear q0 q1 q2 q3 q4 q5 OW QW HT nn x1
  generalize u.X = X at *
  go_upto_region 5 with fail
  go_loopw [44] (fun iv wr => ∃ i : Nat, iv = .int .i64 i ∧ Hid (i ≤ n) ∧ Hid (Below w1.heap.size w1 wr)) (fun iv _ => n - (intOf iv).toNat)
  case atStart => exact ⟨0, rfl, Lib.hid (Nat.zero_le _), hX⟩
  case round =>
    clear hX
    obtain ⟨i, rfl, hi, hB⟩ := hrel
    have s3 := r3.out wr hB.out
    have i4 : i ≤ 4096 := by have := hi.out; omega
    by_cases hlt : i < n
    · have hlt' : i < T.length := by rw [← hn.out]; exact hlt
      obtain ⟨g, c', e, _, hgs, _⟩ := (OX.out wr hB.out).pos (by omega)
      injection e with e1 e2 e3
      subst e1
      obtain ⟨g', c'', e', _, hgs', _⟩ := (GX.out wr hB.out).pos (by omega)
      injection e' with e1' e2' e3'
      subst e1'
      obtain ⟨⟨u0, -⟩, ⟨u1, -⟩⟩ := (OX.out wr hB.out).atR hlt'
      obtain ⟨⟨m0, -⟩, ⟨m1, -⟩⟩ := (GX.out wr hB.out).atT hlt'
      generalize T[i] = y at *
      have heq := eqTrT (rfl : y = y)
      have hB2 := Lib.hid (fun k => bln2 (hB.out.alloc hB.out.size (.cells #[.int .i64 y.1, .int .i64 y.2] 27)) k)
      have hi1 : (i : Int) < (n : Int) := by omega
      have hz : w.heap.size < wr.heap.size := by have := c3.out.lt; have := F.out.size; have := hB.out.size; omega
      have hlt2 := Lib.hid hlt
      clear e2 e3 e2' e3' hlt'
      go_upto_region 7 with fail
      go_quiet (fail)
      go_wp2
      go_roundw
      case rel => exact ⟨i + 1, by go_num, Lib.hid hlt2.out, Lib.hid (hB2.out _)⟩
      case measure => have := hlt2.out; simp [intOf]; omega
    · have hB2 := Lib.hid (HB.out.trans (hB.out.mono HB.out.size))
      obtain rfl : i = n := by have := hi.out; omega
      clear hlt hi hB
      go_wp2
      go_ret
      exact ⟨rfl, hB2.out⟩
end Go.Proofs.Ythapdlgaccfbfaa
