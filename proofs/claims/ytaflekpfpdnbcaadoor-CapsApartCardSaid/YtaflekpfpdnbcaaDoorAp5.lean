/- Tables that have nothing to do with one another. -/
import Derived.Test.YtaflekpfpdnbcaaDoorRe5
import Derived.Test.YtaflekpfpdnbcaaDoorOp5
import Derived.Test.YtaflekpfpdnbcaaDoorSm5
import Derived.LaidEqlPtr
namespace Go.Proofs.YtaflekpfpdnbcaaDoor
open Go.RowKit
set_option linter.unusedVariables false
set_option linter.unusedSimpArgs false
set_option linter.unusedSectionVars false
set_option maxRecDepth 100000

/-- What a table reads. -/
def TD.mine (T : TD) : Nat → Nat → Prop := fun k o => (k = T.t ∨ k = T.r ∨ k = T.p ∨ k = T.g ∨ k = T.G) ∨ (k = T.b ∧ T.off ≤ o ∧ o < T.off + T.n * 4)
/-- What X's steps turn is none of Y's. -/
def TD.Ap (X Y : TD) : Prop := ∀ k o, Y.mine k o → ¬ X.F k o
section
variable {w w' : World} {X Y T : TD} {P : List Pc} {most : Nat}
theorem TabS.frcR {S : Nat → Nat → Prop} (h : TabS w T P most) (F : FrC S w w') (hS : ∀ k o, T.mine k o → ¬ S k o) : TabS w' T P most := by
  have h1 : ∀ o, ¬ S T.t o := fun o => hS _ o (.inl (.inl rfl))
  have h2 : ∀ o, ¬ S T.r o := fun o => hS _ o (.inl (.inr (.inl rfl)))
  have h3 : ∀ o, ¬ S T.p o := fun o => hS _ o (.inl (.inr (.inr (.inl rfl))))
  have h4 : ∀ o, ¬ S T.g o := fun o => hS _ o (.inl (.inr (.inr (.inr (.inl rfl)))))
  have h5 : ∀ o, ¬ S T.G o := fun o => hS _ o (.inl (.inr (.inr (.inr (.inr rfl)))))
  exact ⟨h.R.frc F h2 h3 h4 (fun o a b => hS _ o (.inr ⟨rfl, a, b⟩)), F.cel _ _ _ (h1 _) h.c0, F.cel _ _ _ (h1 _) h.c1, F.cel _ _ _ (h1 _) h.c2, F.cel _ _ _ (h1 _) h.c3, fun i hi => F.cel _ _ _ (h5 _) (h.gc i hi), ⟨Nat.lt_of_lt_of_le h.gb.1 F.size, Nat.lt_of_lt_of_le h.gb.2 F.size⟩, h.ok, h.pc, h.most, h.n, h.sh.imp fun ca e => (F.block T.t h.c0.lt h1).trans e⟩
theorem TabS.away (h : TabS w Y P most) (F : FrC X.F w w') (ap : TD.Ap X Y) : TabS w' Y P most := h.frcR F ap
end

theorem info_Table : ∃ j, Tryd.prog.info? 76 = some j ∧ j.size ≠ 0 := by
  have h : (Tryd.prog.info? 76).map (fun i => i.size) = some 4 := by kernel_rfl
  cases hi : Tryd.prog.info? 76 with
  | none => rw [hi] at h; cases h
  | some j =>
    rw [hi] at h
    refine ⟨j, rfl, ?_⟩
    injection h with h
    replace h : j.size = 4 := h
    rw [h]; decide
theorem eq_ptr (w : World) (a : Nat) : (binOp .eql 25 (.pointer (some ⟨a, 0, none⟩)) (.pointer (some ⟨a, 0, none⟩))).run Tryd.prog w = .ok (.bool true) w := by
  obtain ⟨j, h, -⟩ := info_Table
  exact run_eql_ptr_same w _ Tryd.underlying25 h
theorem ne_ptr {w : World} {X Z : TD} {P Q : List Pc} {most : Nat} (h : TabS w X P most) (k : TabS w Z Q most) (hne : X.t ≠ Z.t) : (binOp .eql 25 (.pointer (some ⟨X.t, 0, none⟩)) (.pointer (some ⟨Z.t, 0, none⟩))).run Tryd.prog w = .ok (.bool false) w := by
  obtain ⟨j, hj, hz⟩ := info_Table
  obtain ⟨ca, ha⟩ := h.sh
  obtain ⟨cb, hb⟩ := k.sh
  exact run_eql_ptr_other w Tryd.underlying25 hj hz (fun e => hne (by injection e)) ha hb
set_option maxHeartbeats 8000000 in
/-- A step of one table alone. -/
theorem alike1_c {w : World} {X : TD} {P : List Pc} {most : Nat} (h : TabS w X P most) (hT : Tab w) (z : Op5) (hz : z.good) :
    Calls Tryd.prog 24 #[.pointer (some ⟨X.t, 0, none⟩), .pointer (some ⟨X.t, 0, none⟩), .agg #[.int .i64 z.kind, .int .i64 z.n, .int .i64 z.cap_Kind, .int .i64 z.cap_Index, .int .i64 z.cap_Rights, .int .u64 z.h]] w fun e w' => e = .returned (.bool true) ∧ (∃ P', TabS w' X P' most) ∧ FrC X.F w w' := by
  obtain ⟨zk, zn, ck, ci, cr, zh⟩ := z
  have hw := wf_u64 hz.2.2.2.2.2
  dsimp only at hw ⊢
  obtain ⟨H, rfl⟩ := Int.eq_ofNat_of_zero_le hw.1
  have hH : H < 18446744073709551616 := by omega
  have F0 := blA (Below.refl w.heap.size w) (.cells #[.int .i64 zk, .int .i64 zn, .int .i64 ck, .int .i64 ci, .int .i64 cr, .int .u64 H] 32)
  have FF := Lib.hid (FrC.of_below (S := X.F) F0 (Nat.le_refl _))
  have h0 := Lib.hid (h.below F0)
  have m0 := Lib.hid (mint_c h0.out (hT.below F0) ck ci cr)
  have r0 := Lib.hid (revoke_c h0.out H hH)
  have hpe := fun w => eq_ptr w X.t
  clear h hT hw hz F0
  go_enter Tryd.func24, Tryd.ntmps24
  by_cases h1 : zk = 0
  · subst h1
    go_wp2_with fail
    refine m0.out.mono ?_
    rintro e w2 ⟨rfl, S, F⟩
    have G := Lib.hid (FF.out.then_ F (fun _ _ _ h => h))
    replace S := Lib.hid S
    clear m0 r0 FF h0 F
    cases nextB (xP most P) false 0 with
    | none =>
      unfold mintA
      go_wp2
      go_ret
      exact ⟨rfl, ⟨_, S.out⟩, G.out⟩
    | some j =>
      unfold mintA
      simp only []
      generalize ((((P.getD j Pc.new).gen + 1) * 16777216 + j * 256 + (cr % 256).toNat : Nat) : Int) = hv
      go_wp2
      go_ret
      exact ⟨rfl, ⟨_, S.out⟩, G.out⟩
  by_cases h2 : zk = 2
  · subst h2
    clear h1
    go_wp2_with fail
    refine r0.out.mono ?_
    rintro e w2 ⟨rfl, S, F⟩
    have G := Lib.hid (FF.out.then_ F (fun _ _ _ h => h))
    replace S := Lib.hid S
    clear m0 r0 FF h0 F
    generalize revA (findP P H) = rv
    go_wp2
    go_ret
    exact ⟨rfl, ⟨_, S.out⟩, G.out⟩
  · have e0 : (zk == 0) = false := by simp [h1]
    have e2 : (zk == 2) = false := by simp [h2]
    clear h1 h2 m0 r0
    go_wp2
    go_ret
    exact ⟨rfl, ⟨_, h0.out⟩, FF.out⟩
set_option maxHeartbeats 8000000 in
/-- The same step of two tables that are alike. -/
theorem alike2_c {w : World} {X Z : TD} {P : List Pc} {most : Nat} (h : TabS w X P most) (k : TabS w Z P most) (xz : TD.Ap X Z) (zx : TD.Ap Z X) (hT : Tab w) (hTX : ∀ o, ¬ X.F 0 o) (hne : X.t ≠ Z.t) (z : Op5) (hz : z.good) :
    Calls Tryd.prog 24 #[.pointer (some ⟨X.t, 0, none⟩), .pointer (some ⟨Z.t, 0, none⟩), .agg #[.int .i64 z.kind, .int .i64 z.n, .int .i64 z.cap_Kind, .int .i64 z.cap_Index, .int .i64 z.cap_Rights, .int .u64 z.h]] w fun e w' => e = .returned (.bool true) ∧ (∃ P', TabS w' X P' most ∧ TabS w' Z P' most) ∧ FrC (fun k o => X.F k o ∨ Z.F k o) w w' := by
  obtain ⟨zk, zn, ck, ci, cr, zh⟩ := z
  have hw := wf_u64 hz.2.2.2.2.2
  dsimp only at hw ⊢
  obtain ⟨H, rfl⟩ := Int.eq_ofNat_of_zero_le hw.1
  have hH : H < 18446744073709551616 := by omega
  have F0 := blA (Below.refl w.heap.size w) (.cells #[.int .i64 zk, .int .i64 zn, .int .i64 ck, .int .i64 ci, .int .i64 cr, .int .u64 H] 32)
  have y := fun i v hv => Cel.new w #[.int .i64 zk, .int .i64 zn, .int .i64 ck, .int .i64 ci, .int .i64 cr, .int .u64 H] 32 i v hv
  have y2 := y 2 (.int .i64 ck) rfl
  have y3 := y 3 (.int .i64 ci) rfl
  have y4 := y 4 (.int .i64 cr) rfl
  have y5 := y 5 (.int .u64 H) rfl
  have FF := Lib.hid (FrC.of_below (S := fun k o => X.F k o ∨ Z.F k o) F0 (Nat.le_refl _))
  have hno := h.no (k := w.heap.size) (Nat.le_refl _)
  have h0 := Lib.hid (h.below F0)
  have k0 := Lib.hid (k.below F0)
  have T0 := Lib.hid (hT.below F0)
  have m0 := Lib.hid (mint_c h0.out T0.out ck ci cr)
  have r0 := Lib.hid (revoke_c h0.out H hH)
  replace hno := Lib.hid hno; replace xz := Lib.hid xz; replace zx := Lib.hid zx; replace hTX := Lib.hid hTX
  clear h k hT hw hz F0 y
  go_enter Tryd.func24, Tryd.ntmps24
  by_cases h1 : zk = 0
  · subst h1
    go_wp2_with fail
    generalize w.alloc (.cells #[.int .i64 0, .int .i64 zn, .int .i64 ck, .int .i64 ci, .int .i64 cr, .int .u64 H] 32) = w1 at *
    generalize hZb : w.heap.size = Zb at *
    replace hZb := Lib.hid hZb
    refine m0.out.mono ?_
    rintro e w2 ⟨rfl, S, F⟩
    have G := Lib.hid (FF.out.then_ F (fun _ _ _ h => .inl h))
    have k2 := Lib.hid (k0.out.away F xz.out)
    have hpe := ne_ptr S k2.out hne
    have m1 := Lib.hid (mint_c k2.out (T0.out.frc F hTX.out) ck ci cr)
    have x2 := (F.keepT hno.out y2).1; have x3 := (F.keepT hno.out y3).1; have x4 := (F.keepT hno.out y4).1
    replace S := Lib.hid S
    clear m0 r0 FF h0 F y2 y3 y4 y5
    cases hn : nextB (xP most P) false 0 with
    | none =>
      rw [hn] at m1 S
      unfold mintA at m1 ⊢
      go_wp2_with fail
      refine m1.out.mono ?_
      rintro e w3 ⟨rfl, S2, F⟩
      have S3 := Lib.hid (And.intro (S.out.away F zx.out) S2)
      have G2 := Lib.hid (G.out.then_ F (fun _ _ _ h => .inr h))
      clear m1 S S2 F G
      go_wp2
      go_ret
      exact ⟨rfl, ⟨_, S3.out⟩, G2.out⟩
    | some j =>
      rw [hn] at m1 S
      unfold mintA at m1 ⊢
      simp only [] at m1 ⊢
      generalize ((((P.getD j Pc.new).gen + 1) * 16777216 + j * 256 + (cr % 256).toNat : Nat) : Int) = hv at *
      have ev : (hv == hv) = true := by simp
      go_wp2_with fail
      refine m1.out.mono ?_
      rintro e w3 ⟨rfl, S2, F⟩
      have S3 := Lib.hid (And.intro (S.out.away F zx.out) S2)
      have G2 := Lib.hid (G.out.then_ F (fun _ _ _ h => .inr h))
      clear m1 S S2 F G
      go_wp2
      go_ret
      exact ⟨rfl, ⟨_, S3.out⟩, G2.out⟩
  by_cases h2 : zk = 2
  · subst h2
    clear h1
    go_wp2_with fail
    generalize w.alloc (.cells #[.int .i64 2, .int .i64 zn, .int .i64 ck, .int .i64 ci, .int .i64 cr, .int .u64 H] 32) = w1 at *
    generalize hZb : w.heap.size = Zb at *
    replace hZb := Lib.hid hZb
    refine r0.out.mono ?_
    rintro e w2 ⟨rfl, S, F⟩
    have G := Lib.hid (FF.out.then_ F (fun _ _ _ h => .inl h))
    have k2 := Lib.hid (k0.out.away F xz.out)
    have hpe := ne_ptr S k2.out hne
    have m1 := Lib.hid (revoke_c k2.out H hH)
    have x5 := (F.keepT hno.out y5).1
    replace S := Lib.hid S
    clear m0 r0 FF h0 F y2 y3 y4 y5
    generalize revA (findP P H) = rv at *
    have ev : (rv == rv) = true := by simp
    go_wp2_with fail
    refine m1.out.mono ?_
    rintro e w3 ⟨rfl, S2, F⟩
    have S3 := Lib.hid (And.intro (S.out.away F zx.out) S2)
    have G2 := Lib.hid (G.out.then_ F (fun _ _ _ h => .inr h))
    clear m1 S S2 F G
    go_wp2
    go_ret
    exact ⟨rfl, ⟨_, S3.out⟩, G2.out⟩
  · have e0 : (zk == 0) = false := by simp [h1]
    have e2 : (zk == 2) = false := by simp [h2]
    clear h1 h2 m0 r0
    go_wp2
    go_ret
    exact ⟨rfl, ⟨_, h0.out, k0.out⟩, FF.out⟩
end Go.Proofs.YtaflekpfpdnbcaaDoor
