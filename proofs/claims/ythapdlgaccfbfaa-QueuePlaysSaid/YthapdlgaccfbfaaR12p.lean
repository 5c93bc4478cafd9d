/- The document's answer for queues: putting in. -/
import Derived.Test.YthapdlgaccfbfaaR12
import Derived.Test.YthapdlgaccfbfaaSince
import Derived.Test.YthapdlgaccfbfaaOwnES
import Derived.Deep.RegionLaw
import Derived.Deep.DeepCutAuto
namespace Go.Proofs.Ythapdlgaccfbfaa
open Go.RowKit
set_option linter.unusedVariables false
set_option linter.unusedSimpArgs false
set_option linter.unusedSectionVars false
set_option maxRecDepth 100000

/-- The document's queue and a thing in their variables. -/
def InV (w : World) (Z Y t d mo : Nat) (s : Value) (x : Th) : Prop :=
  w.cell? ⟨Z, 0, none⟩ = some (.int .i64 t) ∧ w.cell? ⟨Z, 1, none⟩ = some (.int .i64 d) ∧ w.cell? ⟨Z, 2, none⟩ = some (.int .i64 mo) ∧ w.cell? ⟨Z, 3, none⟩ = some s ∧ w.cell? ⟨Y, 0, none⟩ = some (.int .i64 x.1) ∧ w.cell? ⟨Y, 1, none⟩ = some (.int .i64 x.2)

set_option maxHeartbeats 8000000 in
theorem rpushQ_c {w : World} {base c t d mo : Nat} {A : Option Addr} {T : List Th} (h : OwnE trE w base (.slice A T.length c) T) (hl : T.length ≤ 4096) (x : Th) :
    Calls Try.prog 12 #[quV t d mo (.slice A T.length c), thV x] w fun e w' => ∃ v', e = .returned (.tuple #[quV t d mo v', .bool (pushB t d mo T x)]) ∧ OwnE trE w' 0 v' (pushT t d mo T x) ∧ (∀ b, v'.ownBlock = some b → (Value.slice A T.length c).ownBlock = some b ∨ w.heap.size ≤ b) ∧ Below w.heap.size w w' := by
  have B1 := Below.alloc (Below.refl w.heap.size w) (Nat.le_refl _) (quC t d mo (.slice A T.length c))
  have B2 := Below.alloc B1 B1.size (.cells #[.int .i64 x.1, .int .i64 x.2] 41)
  have B3 := Lib.hid (Below.alloc B2 B2.size (quC 0 0 0 (.slice none 0 0)))
  have O := Lib.hid (((h.alloc (quC t d mo (.slice A T.length c))).alloc (.cells #[.int .i64 x.1, .int .i64 x.2] 41)).alloc (quC 0 0 0 (.slice none 0 0)))
  have hlow : Hid (∀ b, (Value.slice A T.length c).ownBlock = some b → b < w.heap.size) := Lib.hid fun b hb => (h.lt b hb).2
  clear h B1 B2
  go_enter Try.func12, Try.ntmps12
  go_upto_region 1 with fail
  have c0 := ((Cel.new w #[.int .i64 t, .int .i64 d, .int .i64 mo, .slice A T.length c] 36 0 _ rfl).alloc (.cells #[.int .i64 x.1, .int .i64 x.2] 41)).alloc (quC 0 0 0 (.slice none 0 0))
  have c1 := ((Cel.new w #[.int .i64 t, .int .i64 d, .int .i64 mo, .slice A T.length c] 36 1 _ rfl).alloc (.cells #[.int .i64 x.1, .int .i64 x.2] 41)).alloc (quC 0 0 0 (.slice none 0 0))
  have c2 := ((Cel.new w #[.int .i64 t, .int .i64 d, .int .i64 mo, .slice A T.length c] 36 2 _ rfl).alloc (.cells #[.int .i64 x.1, .int .i64 x.2] 41)).alloc (quC 0 0 0 (.slice none 0 0))
  have c3 := ((Cel.new w #[.int .i64 t, .int .i64 d, .int .i64 mo, .slice A T.length c] 36 3 _ rfl).alloc (.cells #[.int .i64 x.1, .int .i64 x.2] 41)).alloc (quC 0 0 0 (.slice none 0 0))
  have y0 := (Cel.new (w.alloc (quC t d mo (.slice A T.length c))) #[.int .i64 x.1, .int .i64 x.2] 41 0 _ rfl).alloc (quC 0 0 0 (.slice none 0 0))
  have y1 := (Cel.new (w.alloc (quC t d mo (.slice A T.length c))) #[.int .i64 x.1, .int .i64 x.2] 41 1 _ rfl).alloc (quC 0 0 0 (.slice none 0 0))
  rw [show (w.alloc (quC t d mo (.slice A T.length c))).heap.size = w.heap.size + 1 by simp] at y0 y1
  have v := fun j u hu => Cel.new ((w.alloc (quC t d mo (.slice A T.length c))).alloc (.cells #[.int .i64 x.1, .int .i64 x.2] 41)) #[.int .i64 0, .int .i64 0, .int .i64 0, .slice none 0 0] 36 j u hu
  rw [show ((w.alloc (quC t d mo (.slice A T.length c))).alloc (.cells #[.int .i64 x.1, .int .i64 x.2] 41)).heap.size = w.heap.size + 1 + 1 by simp] at v
  have hsz : (((w.alloc (quC t d mo (.slice A T.length c))).alloc (.cells #[.int .i64 x.1, .int .i64 x.2] 41)).alloc (quC 0 0 0 (.slice none 0 0))).heap.size = w.heap.size + 3 := by simp
  replace c0 := Lib.hid c0; replace c1 := Lib.hid c1; replace c2 := Lib.hid c2; replace c3 := Lib.hid c3; replace y0 := Lib.hid y0; replace y1 := Lib.hid y1
  have v0 := Lib.hid (v 0 _ rfl); have v1 := Lib.hid (v 1 _ rfl); have v2r := Lib.hid (v 2 _ rfl); have v3r := Lib.hid (v 3 _ rfl)
  replace hsz := Lib.hid hsz
  clear v
  generalize ((w.alloc (.cells #[.int .i64 t, .int .i64 d, .int .i64 mo, .slice A T.length c] 36)).alloc (.cells #[.int .i64 x.1, .int .i64 x.2] 41)).alloc (.cells #[.int .i64 0, .int .i64 0, .int .i64 0, .slice none 0 0] 36) = W at *
  have key : Hid (∀ X, Below W.heap.size W X → InV X w.heap.size (w.heap.size + 1) t d mo (.slice A T.length c) x) := Lib.hid fun X hX =>
    ⟨(c0.out.low hX c0.out.lt).1, (c1.out.low hX c1.out.lt).1, (c2.out.low hX c2.out.lt).1, (c3.out.low hX c3.out.lt).1, (y0.out.low hX y0.out.lt).1, (y1.out.low hX y1.out.lt).1⟩
  have HX0 := Lib.hid (Below.refl W.heap.size W)
  obtain ⟨k0, k1, k2, k3, k4, k5⟩ := key.out W HX0.out
  have nn : Nonempty (Sin (fun X => Below W.heap.size W X)) := ⟨⟨W, HX0.out⟩⟩
  have q0 : ∀ u : Sin (fun X => Below W.heap.size W X), u.X.cell? ⟨w.heap.size, 0, none⟩ = some (.int .i64 t) := fun u => (key.out u.X u.h).1
  have q1 : ∀ u : Sin (fun X => Below W.heap.size W X), u.X.cell? ⟨w.heap.size, 1, none⟩ = some (.int .i64 d) := fun u => (key.out u.X u.h).2.1
  have q2 : ∀ u : Sin (fun X => Below W.heap.size W X), u.X.cell? ⟨w.heap.size, 2, none⟩ = some (.int .i64 mo) := fun u => (key.out u.X u.h).2.2.1
  have q3 : ∀ u : Sin (fun X => Below W.heap.size W X), u.X.cell? ⟨w.heap.size, 3, none⟩ = some (.slice A T.length c) := fun u => (key.out u.X u.h).2.2.2.1
  have q4 : ∀ u : Sin (fun X => Below W.heap.size W X), u.X.cell? ⟨w.heap.size + 1, 0, none⟩ = some (.int .i64 x.1) := fun u => (key.out u.X u.h).2.2.2.2.1
  have q5 : ∀ u : Sin (fun X => Below W.heap.size W X), u.X.cell? ⟨w.heap.size + 1, 1, none⟩ = some (.int .i64 x.2) := fun u => (key.out u.X u.h).2.2.2.2.2
  have OW : Hid (∀ u : Sin (fun X => Below W.heap.size W X), OwnE trE u.X base (.slice A T.length c) T) := Lib.hid fun u => O.out.below u.h
  have HT : Hid (∀ (u : Sin (fun X => Below W.heap.size W X)) (X : World), Below u.X.heap.size u.X X → Below W.heap.size W X) := Lib.hid fun u X h => u.h.trans (h.mono u.h.size)
  have hfin := Lib.hid (fun (X : World) (hX : Below W.heap.size W X) => B3.out.trans (hX.mono B3.out.size))
  have ST : (fun X => Below W.heap.size W X) W.drew := blD HX0.out
  replace ST := Lib.hid ST
  have hno : Hid (pushB t d mo T x = false → ∀ (X : World), Below W.heap.size W X → ∀ u0 u1 u2 u3 : Value, Below w.heap.size w ((((X.setCell ⟨w.heap.size + 1 + 1, 0, none⟩ u0).setCell ⟨w.heap.size + 1 + 1, 1, none⟩ u1).setCell ⟨w.heap.size + 1 + 1, 2, none⟩ u2).setCell ⟨w.heap.size + 1 + 1, 3, none⟩ u3) ∧
      OwnE trE ((((X.setCell ⟨w.heap.size + 1 + 1, 0, none⟩ u0).setCell ⟨w.heap.size + 1 + 1, 1, none⟩ u1).setCell ⟨w.heap.size + 1 + 1, 2, none⟩ u2).setCell ⟨w.heap.size + 1 + 1, 3, none⟩ u3) 0 (.slice A T.length c) (pushT t d mo T x)) := Lib.hid fun hp X hX u0 u1 u2 u3 => by
    have hne : (Value.slice A T.length c).ownBlock ≠ some (w.heap.size + 1 + 1) := fun e => by have := hlow.out _ e; omega
    refine ⟨blS (blS (blS (blS (hfin.out X hX) (by omega) _) (by omega) _) (by omega) _) (by omega) _, ?_⟩
    unfold pushT; rw [hp]
    exact (((((O.out.below hX).other (a := ⟨_, _, none⟩) hne u0).other (a := ⟨_, _, none⟩) hne u1).other (a := ⟨_, _, none⟩) hne u2).other (a := ⟨_, _, none⟩) hne u3).mono (Nat.zero_le _)
  cases hok : okB t d x with
  | false =>
    have hp := Lib.hid (show pushB t d mo T x = false by unfold pushB; rw [hok]; rfl)
    replace hok := Lib.hid hok
    refine wp_region_sin (fun X => Below W.heap.size W X) ST.out (by kernel_rfl) (by kernel_rfl) ?_
    repeat (go_big_quiet_step (first
      | exact Calls.sin (risQ_c _ t d mo _ _ _ x) (fun e w' h => ⟨by rw [h.1, hok.out], HT.out _ _ h.2⟩)
      | fail))
    refine wpQuiet_nil ?_
    rintro _ ⟨u, rfl⟩
    have hX := Lib.hid u.h
    have r0 := q0 u; have r1 := q1 u; have r2 := q2 u; have r3 := q3 u; have r4 := q4 u; have r5 := q5 u
    clear q0 q1 q2 q3 q4 q5 OW HT nn
    generalize u.X = X at *
    obtain ⟨g0, g1⟩ := v0.out.low hX.out v0.out.lt
    obtain ⟨g2, g3⟩ := v1.out.low hX.out v1.out.lt
    obtain ⟨g4, g5⟩ := v2r.out.low hX.out v2r.out.lt
    obtain ⟨g6, g7⟩ := v3r.out.low hX.out v3r.out.lt
    have z1 : w.heap.size + 1 + 1 < X.heap.size := by have := hX.out.size; have := v0.out.lt; omega
    have z2 : w.heap.size + 1 < X.heap.size := by omega
    have z3 : w.heap.size < X.heap.size := by omega
    clear k0 k1 k2 k3 k4 k5
    go_wp2
    refine bodyPost_ret (v := .tuple #[quV t d mo (.slice A T.length c), .bool false]) (by simp [results, Try.results12, go_sem, *]) rfl ?_
    exact ⟨_, by rw [hp.out], (hno.out hp.out X hX.out _ _ _ _).2, fun b hb => .inl hb, (hno.out hp.out X hX.out _ _ _ _).1⟩
  | true =>
    by_cases hin : x ∈ T
    · have hp := Lib.hid (show pushB t d mo T x = false by unfold pushB; simp [hin])
      replace hok := Lib.hid hok
      replace hin := Lib.hid (decide_eq_true hin)
      refine wp_region_sin (fun X => Below W.heap.size W X) ST.out (by kernel_rfl) (by kernel_rfl) ?_
      repeat (go_big_quiet_step (first
        | exact Calls.sin (risQ_c _ t d mo _ _ _ x) (fun e w' h => ⟨by rw [h.1, hok.out], HT.out _ _ h.2⟩)
        | exact Calls.sin (rhasQ_c (OW.out _) hl x) (fun e w' h => ⟨by rw [h.1, hin.out], HT.out _ _ h.2⟩)
        | fail))
      refine wpQuiet_nil ?_
      rintro _ ⟨u, rfl⟩
      have hX := Lib.hid u.h
      have r0 := q0 u; have r1 := q1 u; have r2 := q2 u; have r3 := q3 u; have r4 := q4 u; have r5 := q5 u
      clear q0 q1 q2 q3 q4 q5 OW HT nn
      generalize u.X = X at *
      obtain ⟨g0, g1⟩ := v0.out.low hX.out v0.out.lt
      obtain ⟨g2, g3⟩ := v1.out.low hX.out v1.out.lt
      obtain ⟨g4, g5⟩ := v2r.out.low hX.out v2r.out.lt
      obtain ⟨g6, g7⟩ := v3r.out.low hX.out v3r.out.lt
      have z1 : w.heap.size + 1 + 1 < X.heap.size := by have := hX.out.size; have := v0.out.lt; omega
      have z2 : w.heap.size + 1 < X.heap.size := by omega
      have z3 : w.heap.size < X.heap.size := by omega
      clear k0 k1 k2 k3 k4 k5
      go_wp2
      refine bodyPost_ret (v := .tuple #[quV t d mo (.slice A T.length c), .bool false]) (by simp [results, Try.results12, go_sem, *]) rfl ?_
      exact ⟨_, by rw [hp.out], (hno.out hp.out X hX.out _ _ _ _).2, fun b hb => .inl hb, (hno.out hp.out X hX.out _ _ _ _).1⟩
    · have hin' := Lib.hid hin
      replace hin := Lib.hid (decide_eq_false hin)
      by_cases h2 : x.1 = 2 ∧ mo ≤ heldT T
      · have hp := Lib.hid (show pushB t d mo T x = false by unfold pushB; simp [h2.1, h2.2])
        have e1 : (x.1 == 2) = true := by rw [h2.1]; rfl
        obtain ⟨e2, e3⟩ : decide ((mo : Int) ≤ (heldT T : Int)) = true ∧ decide (mo ≤ heldT T) = true := ⟨decide_eq_true (by omega), decide_eq_true h2.2⟩
        replace hok := Lib.hid hok
        clear h2
        refine wp_region_sin (fun X => Below W.heap.size W X) ST.out (by kernel_rfl) (by kernel_rfl) ?_
        repeat (go_big_quiet_step (first
          | exact Calls.sin (risQ_c _ t d mo _ _ _ x) (fun e w' h => ⟨by rw [h.1, hok.out], HT.out _ _ h.2⟩)
          | exact Calls.sin (rhasQ_c (OW.out _) hl x) (fun e w' h => ⟨by rw [h.1, hin.out], HT.out _ _ h.2⟩)
          | exact Calls.sin (rheldQ_c (OW.out _) hl) (fun e w' h => ⟨by rw [h.1], HT.out _ _ h.2⟩)
          | fail))
        refine wpQuiet_nil ?_
        rintro _ ⟨u, rfl⟩
        have hX := Lib.hid u.h
        have r0 := q0 u; have r1 := q1 u; have r2 := q2 u; have r3 := q3 u; have r4 := q4 u; have r5 := q5 u
        clear q0 q1 q2 q3 q4 q5 OW HT nn
        generalize u.X = X at *
        obtain ⟨g0, g1⟩ := v0.out.low hX.out v0.out.lt
        obtain ⟨g2, g3⟩ := v1.out.low hX.out v1.out.lt
        obtain ⟨g4, g5⟩ := v2r.out.low hX.out v2r.out.lt
        obtain ⟨g6, g7⟩ := v3r.out.low hX.out v3r.out.lt
        have z1 : w.heap.size + 1 + 1 < X.heap.size := by have := hX.out.size; have := v0.out.lt; omega
        have z2 : w.heap.size + 1 < X.heap.size := by omega
        have z3 : w.heap.size < X.heap.size := by omega
        clear k0 k1 k2 k3 k4 k5
        go_wp2
        refine bodyPost_ret (v := .tuple #[quV t d mo (.slice A T.length c), .bool false]) (by simp [results, Try.results12, go_sem, *]) rfl ?_
        exact ⟨_, by rw [hp.out], (hno.out hp.out X hX.out _ _ _ _).2, fun b hb => .inl hb, (hno.out hp.out X hX.out _ _ _ _).1⟩
      · have hp := Lib.hid (show pushB t d mo T x = true by unfold pushB; rw [hok, hin.out]; simp only [Bool.true_and, Bool.not_false, Bool.and_true]; by_cases h3 : x.1 = 2 <;> simp [h3]; omega)
        replace hok := Lib.hid hok
        have two : ((x.1 == 2) = false) ∨ ((x.1 == 2) = true ∧ decide ((mo : Int) ≤ (heldT T : Int)) = false ∧ decide (mo ≤ heldT T) = false) := by
          by_cases h3 : x.1 = 2
          · exact .inr ⟨by rw [h3]; rfl, decide_eq_false (by omega), decide_eq_false (by omega)⟩
          · exact .inl (beq_eq_false_iff_ne.mpr h3)
        clear h2
        go_cut [26] (fun v wx => v = .bool false ∧ Hid (Below W.heap.size W wx))
        case first =>
          rcases two with e1 | ⟨e1, e2, e3⟩
          all_goals
            refine wp_region_sin (fun X => Below W.heap.size W X) ST.out (by kernel_rfl) (by kernel_rfl) ?_
            repeat (go_big_quiet_step (first
              | exact Calls.sin (risQ_c _ t d mo _ _ _ x) (fun e w' h => ⟨by rw [h.1, hok.out], HT.out _ _ h.2⟩)
              | exact Calls.sin (rhasQ_c (OW.out _) hl x) (fun e w' h => ⟨by rw [h.1, hin.out], HT.out _ _ h.2⟩)
              | exact Calls.sin (rheldQ_c (OW.out _) hl) (fun e w' h => ⟨by rw [h.1], HT.out _ _ h.2⟩)
              | fail))
            refine wpQuiet_nil ?_
            rintro _ ⟨u, rfl⟩
            have hX := Lib.hid u.h
            clear q0 q1 q2 q3 q4 q5 OW HT nn
            go_wp2_with fail
            go_meet
            exact ⟨rfl, hX⟩
        case rest =>
          obtain ⟨rfl, hX⟩ := hcut
          have r0 := q0 ⟨wc, hX.out⟩; have r1 := q1 ⟨wc, hX.out⟩; have r2 := q2 ⟨wc, hX.out⟩; have r3 := q3 ⟨wc, hX.out⟩; have r4 := q4 ⟨wc, hX.out⟩; have r5 := q5 ⟨wc, hX.out⟩
          dsimp only at r0 r1 r2 r3 r4 r5
          have OX := Lib.hid (OW.out ⟨wc, hX.out⟩)
          dsimp only at OX
          clear q0 q1 q2 q3 q4 q5 OW HT nn k0 k1 k2 k3 k4 k5 two ST
          generalize wc = X at *
          have z1 : w.heap.size + 1 + 1 < X.heap.size := by have := hX.out.size; have := v0.out.lt; omega
          have z2 : w.heap.size + 1 < X.heap.size := by omega
          have z3 : w.heap.size < X.heap.size := by omega
          have E0 : Hid (∀ (Y : World) (B : Nat), B = Y.heap.size → X.heap.size ≤ B → OwnE trE (Y.alloc (.cells #[] 41)) X.heap.size (.slice (some ⟨B, 0, none⟩) 0 0) []) := Lib.hid fun Y B hB hY => by subst hB; exact OwnE.lit (E := trE) Y X.heap.size hY [] #[] rfl (by simp)
          have R0 : Hid (∀ Y : World, Below X.heap.size X Y → RowAt trE.f trE.sz Y A T) := Lib.hid fun Y hY => (OX.out.below hY).row.1
          have K0 : Hid (∀ Y : World, Below X.heap.size X Y → Y.cell? ⟨w.heap.size + 1, 0, none⟩ = some (.int .i64 x.1) ∧ Y.cell? ⟨w.heap.size + 1, 1, none⟩ = some (.int .i64 x.2)) := Lib.hid fun Y hY => ⟨(hY.cell (p := ⟨w.heap.size + 1, 0, none⟩) z2).trans r4, (hY.cell (p := ⟨w.heap.size + 1, 1, none⟩) z2).trans r5⟩
          have K3 : Hid (∀ Y : World, Below X.heap.size X Y → Y.cell? ⟨w.heap.size, 3, none⟩ = some (.slice A T.length c)) := Lib.hid fun Y hY => (hY.cell (p := ⟨w.heap.size, 3, none⟩) z3).trans r3
          have C3 := c3.out.low hX.out c3.out.lt
          have KF : Hid (∀ Y : World, Below X.heap.size X Y → Y.frozen? ⟨w.heap.size, 3, none⟩ = false) := Lib.hid fun Y hY => (C3.low hY z3).2
          have KZ : Hid (∀ Y : World, Below X.heap.size X Y → w.heap.size < Y.heap.size) := Lib.hid fun Y hY => by have := hY.size; omega
          have KS : Hid (∀ Y : World, Below X.heap.size X Y → ∀ u : Value, (Y.setCell ⟨w.heap.size, 3, none⟩ u).cell? ⟨w.heap.size + 1, 0, none⟩ = some (.int .i64 x.1) ∧ (Y.setCell ⟨w.heap.size, 3, none⟩ u).cell? ⟨w.heap.size + 1, 1, none⟩ = some (.int .i64 x.2)) := Lib.hid fun Y hY u =>
            ⟨(World.cell?_setCell_other _ _ _ _ (by simp)).trans (K0.out Y hY).1, (World.cell?_setCell_other _ _ _ _ (by simp)).trans (K0.out Y hY).2⟩
          clear C3
          have HY0 := Lib.hid (Below.refl X.heap.size X)
          go_upto_region 3 with fail
          replace z1 := Lib.hid z1
          have hTl : Hid (T.length ≤ 10000000) := Lib.hid (by omega)
          have KZ2 : Hid (∀ Y : World, Below X.heap.size X Y → w.heap.size + 1 < Y.heap.size) := Lib.hid fun Y hY => by have := hY.size; omega
          go_region_law (first
            | (refine step_append_rowE (E := trE) (xs := []) (ys := T) (base := X.heap.size) rfl rfl Try.underlying34 rfl (by first | exact E0.out X _ (by first | rfl | (simp; done)) (by first | exact Nat.le_refl _ | (simp; done) | (simp; omega)) | exact (E0.out X _ (by first | rfl | (simp; done)) (by first | exact Nat.le_refl _ | (simp; done) | (simp; omega))).alloc _ | exact E0.out (X.alloc _) _ (by first | rfl | (simp; done)) (by first | exact Nat.le_refl _ | (simp; done) | (simp; omega))) rfl (R0.out _ (by repeat (first | exact HY0.out | refine blA ?_ _ | refine blD ?_))) rfl (by simp) hTl.out (by first | exact Nat.le_refl _ | (simp; done) | (simp; omega)) ?_; intro v2 w2 G1 G2 G3 G4; have HX2 : Below X.heap.size X w2 := (show Below X.heap.size X _ from (by repeat (first | exact HY0.out | refine blA ?_ _ | refine blD ?_))).trans G2; have l0 := (K0.out _ HX2).1; have l1 := (K0.out _ HX2).2; have l2 := KZ2.out _ HX2; first | (have R2 := rowAt_grown (w := ((X.alloc (.cells #[] 41)).alloc (.cells #[.int .i64 x.1, .int .i64 x.2] 41)).drew) (rowAt_new1 (E := trE) (B := X.heap.size + 1) (X.alloc (.cells #[] 41)) #[.int .i64 x.1, .int .i64 x.2] 41 x (by simp) rfl) G3 (by first | (simp [Value.ownBlock, Act.eval]; done) | (simp [Value.ownBlock, Act.eval]; omega))) | (have R2 := rowAt_grown (w := ((X.alloc (.cells #[.int .i64 x.1, .int .i64 x.2] 41)).alloc (.cells #[] 41)).drew) (rowAt_alloc (rowAt_new1 (E := trE) (B := X.heap.size) X #[.int .i64 x.1, .int .i64 x.2] 41 x rfl rfl) (.cells #[] 41)) G3 (by first | (simp [Value.ownBlock, Act.eval]; done) | (simp [Value.ownBlock, Act.eval]; omega))) | skip)
            | (refine step_append_rowE (E := trE) (xs := [] ++ T) (ys := [x]) (base := X.heap.size) rfl rfl Try.underlying34 rfl G1 rfl R2 rfl (by simp; have := hTl.out; omega) (by simp) HX2.size ?_; intro v3 w3 P1 P2 P3 P4; obtain ⟨A5, c5, rfl, -⟩ := P1.slice; have HX3 : Below X.heap.size X w3 := HX2.trans P2; have s3 := K3.out _ HX3; have s4 := KF.out _ HX3; have s5 := KZ.out _ HX3)
            | (refine step_append_rowE (E := trE) (xs := [] ++ T) (ys := [x]) (base := X.heap.size) rfl rfl Try.underlying34 rfl (G1.alloc _) rfl (rowAt_new1 (E := trE) w2 #[.int .i64 x.1, .int .i64 x.2] 41 x rfl rfl) rfl (by simp; have := hTl.out; omega) (by simp) (blA HX2 _).size ?_; intro v3 w3 P1 P2 P3 P4; obtain ⟨A5, c5, rfl, -⟩ := P1.slice; have HX3 : Below X.heap.size X w3 := (blA HX2 _).trans P2; have s3 := K3.out _ HX3; have s4 := KF.out _ HX3; have s5 := KZ.out _ HX3)
            | fail)
          all_goals
            have O9 := Lib.hid P1
            have H9 := Lib.hid HX3
            have y0' := (K0.out _ HX3).1; have y1' := (K0.out _ HX3).2
            try clear R2
            clear P1 P2 P3 P4 G1 G2 G3 G4 HX2 HX3
            replace O9 := Lib.hid (show OwnE trE w3 X.heap.size (Value.slice A5 (T.length + 1) c5) (T ++ [x]) by have := O9.out; simpa using this)
            have t0 : w3.cell? ⟨w.heap.size, 0, none⟩ = some (.int .i64 t) := (H9.out.cell (p := ⟨w.heap.size, 0, none⟩) z3).trans r0
            have t1 : w3.cell? ⟨w.heap.size, 1, none⟩ = some (.int .i64 d) := (H9.out.cell (p := ⟨w.heap.size, 1, none⟩) z3).trans r1
            have t2 : w3.cell? ⟨w.heap.size, 2, none⟩ = some (.int .i64 mo) := (H9.out.cell (p := ⟨w.heap.size, 2, none⟩) z3).trans r2
            have HW := hX.out.trans (H9.out.mono hX.out.size)
            obtain ⟨g0, g1⟩ := v0.out.low HW v0.out.lt
            obtain ⟨g2, g3⟩ := v1.out.low HW v1.out.lt
            obtain ⟨g4, g5⟩ := v2r.out.low HW v2r.out.lt
            obtain ⟨g6, g7⟩ := v3r.out.low HW v3r.out.lt
            replace HW := Lib.hid HW
            have z4 : w.heap.size + 1 + 1 < w3.heap.size := by have := z1.out; have := H9.out.size; omega
            clear r0 r1 r2 r3 r4 r5 E0 R0 K0 K3 KF KS KZ HY0 y0' y1'
            try clear hHeld
            go_wp2
            refine bodyPost_ret (v := .tuple #[quV t d mo (.slice A5 (T.length + 1) c5), .bool true]) (by simp [results, Try.results12, go_sem, *]) rfl ?_
            have hpT : pushT t d mo T x = T ++ [x] := by unfold pushT; rw [hp.out]; rfl
            have hne : (Value.slice A5 (T.length + 1) c5).ownBlock ≠ some (w.heap.size + 1 + 1) := fun e => by have := (O9.out.lt _ e).1; have := z1.out; omega
            have hne2 : (Value.slice A5 (T.length + 1) c5).ownBlock ≠ some w.heap.size := fun e => by have := (O9.out.lt _ e).1; have := z1.out; omega
            refine ⟨_, by rw [hp.out], ?_, fun b hb => .inr (by have := (O9.out.lt _ hb).1; have := z1.out; omega), ?_⟩
            · rw [hpT]
              exact ((((((O9.out.other (a := ⟨_, _, none⟩) hne2 _).other (a := ⟨_, _, none⟩) hne _).other (a := ⟨_, _, none⟩) hne _).other (a := ⟨_, _, none⟩) hne _).other (a := ⟨_, _, none⟩) hne _)).mono (Nat.zero_le _)
            · exact blS (blS (blS (blS (blS (hfin.out _ HW.out) (Nat.le_refl _) _) (by omega) _) (by omega) _) (by omega) _) (by omega) _
end Go.Proofs.Ythapdlgaccfbfaa
