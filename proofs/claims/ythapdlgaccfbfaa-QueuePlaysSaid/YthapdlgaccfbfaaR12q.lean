/- The document's answer for queues: taking the first one out. -/
import Derived.Test.YthapdlgaccfbfaaR12d
import Derived.BigRegion
namespace Go.Proofs.Ythapdlgaccfbfaa
open Go.RowKit
set_option linter.unusedVariables false
set_option linter.unusedSimpArgs false
set_option linter.unusedSectionVars false
set_option maxRecDepth 100000

set_option maxHeartbeats 8000000 in
theorem rpopQ_c {w : World} {base c t d mo : Nat} {A : Option Addr} {T : List Th} (h : OwnE trE w base (.slice A T.length c) T) (hl : T.length ≤ 4096) :
    Calls Try.prog 15 #[quV t d mo (.slice A T.length c)] w fun e w' => ∃ v', e = .returned (.tuple #[quV t d mo v', thV (T.headD (0, 0)), .bool (decide (T ≠ []))]) ∧ OwnE trE w' 0 v' T.tail ∧ (∀ b, v'.ownBlock = some b → (Value.slice A T.length c).ownBlock = some b ∨ w.heap.size ≤ b) ∧ Below w.heap.size w w' := by
  have B1 := Below.alloc (Below.refl w.heap.size w) (Nat.le_refl _) (quC t d mo (.slice A T.length c))
  have B2 := Below.alloc B1 B1.size (quC 0 0 0 (.slice none 0 0))
  have B3 := Lib.hid (Below.alloc B2 B2.size (.cells #[.int .i64 0, .int .i64 0] 41))
  have O := Lib.hid (((h.alloc (quC t d mo (.slice A T.length c))).alloc (quC 0 0 0 (.slice none 0 0))).alloc (.cells #[.int .i64 0, .int .i64 0] 41))
  have hlow : Hid (∀ b, (Value.slice A T.length c).ownBlock = some b → b < w.heap.size) := Lib.hid fun b hb => (h.lt b hb).2
  clear h B1 B2
  go_enter Try.func15, Try.ntmps15
  go_upto_region 1 with fail
  have c0 := ((Cel.new w #[.int .i64 t, .int .i64 d, .int .i64 mo, .slice A T.length c] 36 0 (.int .i64 t) rfl).alloc (quC 0 0 0 (.slice none 0 0))).alloc (.cells #[.int .i64 0, .int .i64 0] 41)
  have c1 := ((Cel.new w #[.int .i64 t, .int .i64 d, .int .i64 mo, .slice A T.length c] 36 1 (.int .i64 d) rfl).alloc (quC 0 0 0 (.slice none 0 0))).alloc (.cells #[.int .i64 0, .int .i64 0] 41)
  have c2 := ((Cel.new w #[.int .i64 t, .int .i64 d, .int .i64 mo, .slice A T.length c] 36 2 (.int .i64 mo) rfl).alloc (quC 0 0 0 (.slice none 0 0))).alloc (.cells #[.int .i64 0, .int .i64 0] 41)
  have c3 := ((Cel.new w #[.int .i64 t, .int .i64 d, .int .i64 mo, .slice A T.length c] 36 3 (.slice A T.length c) rfl).alloc (quC 0 0 0 (.slice none 0 0))).alloc (.cells #[.int .i64 0, .int .i64 0] 41)
  have v := fun j u hu => (Cel.new (w.alloc (quC t d mo (.slice A T.length c))) #[.int .i64 0, .int .i64 0, .int .i64 0, .slice none 0 0] 36 j u hu).alloc (.cells #[.int .i64 0, .int .i64 0] 41)
  rw [show (w.alloc (quC t d mo (.slice A T.length c))).heap.size = w.heap.size + 1 by simp] at v
  have y := fun j u hu => Cel.new ((w.alloc (quC t d mo (.slice A T.length c))).alloc (quC 0 0 0 (.slice none 0 0))) #[.int .i64 0, .int .i64 0] 41 j u hu
  rw [show ((w.alloc (quC t d mo (.slice A T.length c))).alloc (quC 0 0 0 (.slice none 0 0))).heap.size = w.heap.size + 1 + 1 by simp] at y
  have hsz : (((w.alloc (quC t d mo (.slice A T.length c))).alloc (quC 0 0 0 (.slice none 0 0))).alloc (.cells #[.int .i64 0, .int .i64 0] 41)).heap.size = w.heap.size + 3 := by simp
  replace c0 := Lib.hid c0; replace c1 := Lib.hid c1; replace c2 := Lib.hid c2; replace c3 := Lib.hid c3
  have v0 := Lib.hid (v 0 _ rfl); have v1 := Lib.hid (v 1 _ rfl); have v2r := Lib.hid (v 2 _ rfl); have v3r := Lib.hid (v 3 _ rfl)
  have y0 := Lib.hid (y 0 _ rfl); have y1 := Lib.hid (y 1 _ rfl)
  replace hsz := Lib.hid hsz
  clear v y
  generalize ((w.alloc (.cells #[.int .i64 t, .int .i64 d, .int .i64 mo, .slice A T.length c] 36)).alloc (.cells #[.int .i64 0, .int .i64 0, .int .i64 0, .slice none 0 0] 36)).alloc (.cells #[.int .i64 0, .int .i64 0] 41) = W at *
  have r0 := c0.out.1; have r1 := c1.out.1; have r2 := c2.out.1; have r3 := c3.out.1
  obtain ⟨g0, g1⟩ := v0.out
  obtain ⟨g2, g3⟩ := v1.out
  obtain ⟨g4, g5⟩ := v2r.out
  obtain ⟨g6, g7⟩ := v3r.out
  obtain ⟨h0, h1⟩ := y0.out
  obtain ⟨h2, h3⟩ := y1.out
  have hW3 := hsz.out
  have z1 : w.heap.size + 1 + 1 < W.heap.size := by omega
  have z2 : w.heap.size + 1 < W.heap.size := by omega
  have z3 : w.heap.size < W.heap.size := by omega
  clear hW3
  cases T with
  | nil =>
    dsimp only [List.length_nil] at *
    have hne : (Value.slice A 0 c).ownBlock ≠ some (w.heap.size + 1 + 1) := fun e => by have := hlow.out _ e; omega
    have hne2 : (Value.slice A 0 c).ownBlock ≠ some (w.heap.size + 1) := fun e => by have := hlow.out _ e; omega
    replace hne := Lib.hid hne; replace hne2 := Lib.hid hne2
    go_wp2
    refine bodyPost_ret (v := .tuple #[quV t d mo (.slice A 0 c), .agg #[.int .i64 0, .int .i64 0], .bool false]) (by simp [results, Try.results15, go_sem, *]) rfl ?_
    refine ⟨_, rfl, ?_, fun b hb => .inl hb, ?_⟩
    · exact ((((((O.out.other (a := ⟨_, _, none⟩) hne2.out _).other (a := ⟨_, _, none⟩) hne2.out _).other (a := ⟨_, _, none⟩) hne2.out _).other (a := ⟨_, _, none⟩) hne2.out _).other (a := ⟨_, _, none⟩) hne.out _).other (a := ⟨_, _, none⟩) hne.out _).mono (Nat.zero_le _)
    · exact blS (blS (blS (blS (blS (blS B3.out (by omega) _) (by omega) _) (by omega) _) (by omega) _) (by omega) _) (by omega) _
  | cons x T =>
    have hl2 := hl
    generalize hn : (x :: T).length = n at *
    have hn1 : n = T.length + 1 := by rw [← hn]; rfl
    have O1 := Lib.hid (show OwnE trE W base (.slice A n c) (x :: T) from O.out)
    obtain ⟨g, c', e, _, hgs, hc⟩ := O1.out.pos (by simp)
    injection e with e1 e2 e3
    subst e1; subst e3
    obtain ⟨⟨u0, -⟩, ⟨u1, -⟩⟩ := O1.out.atR (i := 0) (by simp)
    rw [Nat.zero_mul] at u0 u1
    have i0 : 0 < n := by omega
    have i1 : (1 : Int) ≤ (n : Int) := by omega
    have i2 : (n : Int) ≤ (c : Int) := by omega
    have hTl : Hid (T.length ≤ 4096) := Lib.hid (by omega)
    have hRow := Lib.hid (show RowAt trE.f trE.sz W (some ⟨g, 2, none⟩) T by
      have := rowAt_drop (E := trE) O1.out.row.1 1
      exact this)
    have hn1' := Lib.hid hn1
    replace hn := Lib.hid hn
    clear hn1 hl hl2 e2 hc O
    go_upto_region 4 with fail
    have O2 := Lib.hid (show OwnE trE ((W.alloc (.cells #[.int .i64 x.1, .int .i64 x.2] 41)).alloc (.cells #[] 41)) W.heap.size (.slice (some ⟨W.heap.size + 1, 0, none⟩) 0 0) [] from by
      have := OwnE.lit (E := trE) (W.alloc (.cells #[.int .i64 x.1, .int .i64 x.2] 41)) W.heap.size (by simp) [] #[] rfl (by simp)
      rwa [World.size_alloc] at this)
    have hRow2 := Lib.hid (rowAt_alloc (E := trE) (rowAt_alloc (E := trE) hRow.out (.cells #[.int .i64 x.1, .int .i64 x.2] 41)) (.cells #[] 41))
    have m0 := Lib.hid (Cel.new W #[.int .i64 x.1, .int .i64 x.2] 41 0 (.int .i64 x.1) rfl)
    have m1 := Lib.hid (Cel.new W #[.int .i64 x.1, .int .i64 x.2] 41 1 (.int .i64 x.2) rfl)
    have HB := Lib.hid (blA (blA (Below.refl W.heap.size W) (.cells #[.int .i64 x.1, .int .i64 x.2] 41)) (.cells #[] 41))
    obtain ⟨Q, hQ⟩ : ∃ Q, (if c = 1 then (some ⟨g, 0, none⟩ : Option Addr) else some ⟨g, 2, none⟩) = Q := ⟨_, rfl⟩
    have hRow3 := Lib.hid (show RowAt trE.f trE.sz ((W.alloc (.cells #[.int .i64 x.1, .int .i64 x.2] 41)).alloc (.cells #[] 41)) Q T by
      rw [← hQ]
      by_cases hc1 : c = 1
      · have : T = [] := List.eq_nil_of_length_eq_zero (by have := hn1'.out; omega)
        subst this; exact rowAt_nil _ _
      · rw [if_neg hc1]; exact hRow2.out)
    clear hRow2 hRow
    go_wp2_with (first | (at_builtin; refine append_rowE (E := trE) (xs := []) (ys := T) rfl rfl Try.underlying34 rfl O2.out rfl hRow3.out (by have := hn1'.out; omega) (by simp) (Nat.le_trans hTl.out (by decide)) HB.out.size ?_) | fail)
    intro v' w5 G1 G2 G3 G4
    replace G1 : OwnE trE w5 W.heap.size v' T := G1
    obtain ⟨A5, c5, rfl, -⟩ := G1.slice
    obtain ⟨n5, hn5⟩ : ∃ n5, n5 = T.length := ⟨_, rfl⟩
    rw [← hn5] at G1 ⊢
    have HB5 := HB.out.trans G2
    have hnb : ∀ v : Value, v = .slice (some ⟨W.heap.size + 1, 0, none⟩) 0 0 → v.ownBlock ≠ some W.heap.size := fun v e => by rw [e]; simp [Value.ownBlock]
    obtain ⟨p0, -⟩ := (m0.out.alloc (.cells #[] 41)).frb (FrB.grown G3) (hnb _ rfl)
    obtain ⟨p1, -⟩ := (m1.out.alloc (.cells #[] 41)).frb (FrB.grown G3) (hnb _ rfl)
    have t0 := (c0.out.low HB5 c0.out.lt).1; have t1 := (c1.out.low HB5 c1.out.lt).1; have t2 := (c2.out.low HB5 c2.out.lt).1
    obtain ⟨t3, t4⟩ := c3.out.low HB5 c3.out.lt
    obtain ⟨g0, g1⟩ := v0.out.low HB5 v0.out.lt
    obtain ⟨g2, g3⟩ := v1.out.low HB5 v1.out.lt
    obtain ⟨g4, g5⟩ := v2r.out.low HB5 v2r.out.lt
    obtain ⟨g6, g7⟩ := v3r.out.low HB5 v3r.out.lt
    obtain ⟨h0, h1⟩ := y0.out.low HB5 y0.out.lt
    obtain ⟨h2, h3⟩ := y1.out.low HB5 y1.out.lt
    have hWw := hsz.out
    have z4 : w.heap.size + 1 + 1 < w5.heap.size := by have := HB5.size; omega
    have z5 : w.heap.size + 1 < w5.heap.size := by omega
    have z6 : w.heap.size < w5.heap.size := by omega
    have z7 : W.heap.size < w5.heap.size := by have := G2.size; simp at this; omega
    have n1 : W.heap.size ≠ w.heap.size := by omega
    have n2 : W.heap.size ≠ w.heap.size + 1 := by omega
    have n3 : W.heap.size ≠ w.heap.size + 1 + 1 := by omega
    replace G1 := Lib.hid G1
    have HB6 := Lib.hid HB5
    obtain ⟨Wz, hWz⟩ : ∃ Wz, Wz = W.heap.size := ⟨_, rfl⟩
    rw [← hWz] at p0 p1 z7 n1 n2 n3
    try rw [← hWz]
    replace hWz := Lib.hid hWz; replace hWw := Lib.hid hWw
    clear G2 G3 G4 HB HB5 O2 hRow3 m0 m1 hnb c0 c1 c2 c3 v0 v1 v2r v3r y0 y1 r0 r1 r2 r3 u0 u1 hQ i0 i1 i2 z1 z2 z3 hgs
    replace hn5 := Lib.hid hn5
    go_upto_region 5 with fail
    go_region
    all_goals go_wp2
    refine bodyPost_ret (v := .tuple #[quV t d mo (.slice A5 n5 c5), thV x, .bool true]) (by simp [results, Try.results15, go_sem, *]) rfl ?_
    have hne : (Value.slice A5 n5 c5).ownBlock ≠ some (w.heap.size + 1 + 1) := fun e => by have := (G1.out.lt _ e).1; have := hWw.out; omega
    have hne1 : (Value.slice A5 n5 c5).ownBlock ≠ some (w.heap.size + 1) := fun e => by have := (G1.out.lt _ e).1; have := hWw.out; omega
    have hne2 : (Value.slice A5 n5 c5).ownBlock ≠ some w.heap.size := fun e => by have := (G1.out.lt _ e).1; have := hWw.out; omega
    refine ⟨_, rfl, ?_, fun b hb => .inr (by have := (G1.out.lt _ hb).1; have := hWw.out; omega), ?_⟩
    · have g := hn5.out
      exact ((((((((G1.out.other (a := ⟨_, _, none⟩) hne2 _).other (a := ⟨_, _, none⟩) hne1 _).other (a := ⟨_, _, none⟩) hne1 _).other (a := ⟨_, _, none⟩) hne1 _).other (a := ⟨_, _, none⟩) hne1 _).other (a := ⟨_, _, none⟩) hne _).other (a := ⟨_, _, none⟩) hne _)).drew.mono (Nat.zero_le _)
    · exact blD (blS (blS (blS (blS (blS (blS (blS (B3.out.trans (HB6.out.mono B3.out.size)) (Nat.le_refl _) _) (by omega) _) (by omega) _) (by omega) _) (by omega) _) (by omega) _) (by omega) _)
end Go.Proofs.Ythapdlgaccfbfaa
