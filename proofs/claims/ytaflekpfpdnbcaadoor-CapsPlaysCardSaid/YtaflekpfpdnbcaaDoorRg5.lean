/- The document's tables: a handle is let be none any more; all that are out. -/
import Derived.Test.YtaflekpfpdnbcaaDoorRf9
import Derived.Test.YtaflekpfpdnbcaaDoorRv
import Derived.Test.YtaflekpfpdnbcaaDoorOwnES
namespace Go.Proofs.YtaflekpfpdnbcaaDoor
open Go.RowKit
set_option linter.unusedVariables false
set_option linter.unusedSimpArgs false
set_option linter.unusedSectionVars false
set_option maxRecDepth 100000

set_option maxHeartbeats 8000000 in
theorem revoke_d {w : World} {E : Nat → Prop} {A : Option Addr} {c : Nat} {P : List Pc} {most : Nat} (hr : RowD w E A P) (hE : ∀ k, w.heap.size ≤ k → E k) (hp : ∀ x ∈ P, x.Ok most) (hmo : most ≤ 16777215) (hl : P.length ≤ 256) (h : Nat) (hh : h < 18446744073709551616) :
    Calls Tryd.prog 28 #[.agg #[.slice A P.length c, .int .i64 most], .int .u64 h] w fun e w' => ∃ A' c', e = .returned (.tuple #[.agg #[.slice A' P.length c', .int .i64 most], .int .i64 (revA (findP P h))]) ∧
      RowD w' E A' (revP P (findP P h)) ∧ Below w.heap.size w w' := by
  obtain ⟨n, hn⟩ : ∃ n, n = P.length := ⟨_, rfl⟩
  rw [← hn]
  obtain ⟨w3, hw3⟩ : ∃ w3, w3 = (w.alloc (.cells #[.slice A n c, .int .i64 most] 65)).alloc (.cells #[.slice none 0 0, .int .i64 0] 65) := ⟨_, rfl⟩
  have F3 := blA (blA (Below.refl w.heap.size w) (.cells #[.slice A n c, .int .i64 most] 65)) (.cells #[.slice none 0 0, .int .i64 0] 65)
  rw [← hw3] at F3
  have s3 : w3.heap.size = w.heap.size + 2 := by rw [hw3]; simp
  have t0 : Cel w3 w.heap.size 0 (.slice A n c) := by rw [hw3]; exact (Cel.new w _ _ 0 _ rfl).alloc _
  have t1 : Cel w3 w.heap.size 1 (.int .i64 most) := by rw [hw3]; exact (Cel.new w _ _ 1 _ rfl).alloc _
  have r0 : Cel w3 (w.heap.size + 1) 0 (.slice none 0 0) := by
    have := Cel.new (w.alloc (.cells #[.slice A n c, .int .i64 most] 65)) #[.slice none 0 0, .int .i64 0] 65 0 (.slice none 0 0) rfl
    rw [World.size_alloc] at this
    rw [hw3]; exact this
  have r1 : Cel w3 (w.heap.size + 1) 1 (.int .i64 0) := by
    have := Cel.new (w.alloc (.cells #[.slice A n c, .int .i64 most] 65)) #[.slice none 0 0, .int .i64 0] 65 1 (.int .i64 0) rfl
    rw [World.size_alloc] at this
    rw [hw3]; exact this
  have HR := Lib.hid (hr.1.below F3)
  have HRD := Lib.hid (hr.below F3)
  have hn256 : n ≤ 256 := by rw [hn]; exact hl
  have fd := find_d (c := c) (hr.1.below F3) hp hmo hl h hh (most : Int)
  rw [← hn] at fd
  have hrB := Lib.hid (show ∀ i (hi : i < P.length), ∃ b off, A = some ⟨b, off, none⟩ ∧ b < w.heap.size from fun i hi => by obtain ⟨b, off, e, h1, -⟩ := hr.1 i hi; exact ⟨b, off, e, h1⟩)
  replace fd := Lib.hid fd
  replace hn := Lib.hid hn; replace F3 := Lib.hid F3; replace hE := Lib.hid hE
  have CS := Lib.hid (And.intro (And.intro t0 t1) (And.intro r0 r1))
  have t0a := t0.1; have t1a := t1.1
  clear t0 t1 r0 r1 hr hp hl
  go_enter Tryd.func28, Tryd.ntmps28
  go_wp2_with fail
  rw [← hw3]
  replace hw3 := Lib.hid hw3
  generalize hZ : w.heap.size = Z at *
  replace hZ := Lib.hid hZ
  refine fd.out.mono ?_
  rintro e w4 ⟨rfl, F4⟩
  have KC := Lib.hid (show ∀ b o v, Cel w3 b o v → Cel w4 b o v from fun b o v hc => hc.frb (FrB.of_below (S := fun _ => False) F4 (Nat.le_refl _)) (fun h => h))
  obtain ⟨⟨t0, t1⟩, r0, r1⟩ := CS.out
  replace t0 := KC.out _ _ _ t0; replace t1 := KC.out _ _ _ t1; replace r0 := KC.out _ _ _ r0; replace r1 := KC.out _ _ _ r1
  have HR4 := Lib.hid (HR.out.below F4)
  have HRD4 := Lib.hid (HRD.out.below F4)
  have B4 := Lib.hid (F3.out.trans (F4.mono (by omega)))
  have s4 : Z + 2 ≤ w4.heap.size := by have := F4.size; omega
  clear t0a t1a fd F4 KC HR HRD
  have t0a := t0.1; have t1a := t1.1
  cases hf : findP P h with
  | none =>
    have ei : findI P h = -1 := by unfold findI; rw [hf]
    rw [ei]
    have r0a := r0.1; have r0b := r0.2; have r1a := r1.1; have r1b := r1.2
    have fR0 := Lib.hid ((r0.same (.slice A n c)).other (b' := Z + 1) (o' := 1) (.inr (by decide)) (.int .i64 most))
    have fR1 := Lib.hid ((r1.other (b' := Z + 1) (o' := 0) (.inr (by decide)) (.slice A n c)).same (.int .i64 most))
    have FS : FrB (fun k => k = Z + 1) w4 ((w4.setCell ⟨Z + 1, 0, none⟩ (.slice A n c)).setCell ⟨Z + 1, 1, none⟩ (.int .i64 most)) := (FrB.set w4 ⟨Z + 1, 0, none⟩ _).then_ (FrB.set _ ⟨Z + 1, 1, none⟩ _) (fun _ _ h => h)
    have RD2 := Lib.hid (show RowD ((w4.setCell ⟨Z + 1, 0, none⟩ (.slice A n c)).setCell ⟨Z + 1, 1, none⟩ (.int .i64 most)) E A P from by
      refine ⟨fun q hq => ?_, HRD4.out.2⟩
      obtain ⟨b, off, e, hlt3⟩ := hrB.out q hq
      obtain ⟨b2, off2, e2, hlt4, hc2⟩ := HRD4.out.1 q hq
      rw [e] at e2
      injection e2 with e2
      injection e2 with e3 e4
      subst e3; subst e4
      exact ⟨b, off, e, Nat.lt_of_lt_of_le hlt4 FS.size, fun j v hj => (World.cell?_of_block (FS.block b hlt4 (by omega))).trans (hc2 j v hj)⟩)
    have BF := Lib.hid ((B4.out.setCell (p := ⟨Z + 1, 0, none⟩) (by show Z ≤ Z + 1; omega) (.slice A n c)).setCell (p := ⟨Z + 1, 1, none⟩) (by show Z ≤ Z + 1; omega) (.int .i64 most))
    replace hf := Lib.hid hf
    clear ei t0 t1 r0 r1 FS
    go_wp2
    have g0 := fR0.out.1
    have g1 := fR1.out.1
    refine bodyPost_ret (v := .tuple #[.agg #[.slice A n c, .int .i64 most], .int .i64 5]) ?hres2 rfl ?hend2
    case hend2 =>
      refine ⟨A, c, ?_, ?_, ?_⟩
      · rw [hf.out]; rfl
      · rw [hf.out]; exact RD2.out
      · first
          | exact BF.out
          | (rw [hZ.out]; exact BF.out)
    case hres2 => simp [results, Tryd.results28, go_sem, *]
  | some s =>
    obtain ⟨-, hs, -⟩ := findP_some hf
    have ei : findI P h = s := by unfold findI; rw [hf]
    rw [ei]
    have hsn : s < n := by rw [hn.out]; exact hs
    have hgd : P.getD s Pc.new = P[s] := by simp [hs]
    obtain ⟨b, off, rfl, hbl, c0, -⟩ := HR4.out.pc5 hs
    obtain ⟨zg, hzg⟩ : ∃ z, z = P[s].gen := ⟨_, rfl⟩
    rw [← hzg] at c0
    have hrp := Lib.hid (show revP P (some s) = P.set s ⟨zg, false, 0, 0, 0⟩ by
      show P.set s (P.getD s Pc.new).off = _
      rw [hgd, hzg]; rfl)
    have wd := fun (w' : World) (F : Below w4.heap.size w4 w') => with_d (c := c) (HR4.out.below F) (by rw [← hn.out]; omega) hs ⟨zg, false, 0, 0, 0⟩ (most : Int)
    rw [← hn.out] at wd
    dsimp only at wd
    replace wd := Lib.hid wd
    replace hzg := Lib.hid hzg; replace hf := Lib.hid hf
    have CE := Lib.hid (And.intro t0 (And.intro t1 (And.intro r0 r1)))
    have hbc := Lib.hid (And.intro hbl c0)
    clear ei hgd t0 t1 r0 r1
    go_wp2_with fail
    clear c0 t0a t1a
    have key := Lib.hid (show ∀ w' : World, Below w4.heap.size w4 w' → (w'.cell? ⟨Z, 0, none⟩ = some (.slice (some ⟨b, off, none⟩) n c) ∧ w'.cell? ⟨Z, 1, none⟩ = some (.int .i64 most) ∧ w'.cell? ⟨b, off + s * 5, none⟩ = some (.int .i64 zg)) ∧ Cel w' (Z + 1) 0 (.slice none 0 0) ∧ Cel w' (Z + 1) 1 (.int .i64 0) from fun w' F => by
      obtain ⟨t0, t1, r0, r1⟩ := CE.out
      have FB := FrB.of_below (S := fun _ => False) F (Nat.le_refl _)
      exact ⟨⟨(t0.frb FB (fun h => h)).1, (t1.frb FB (fun h => h)).1, (F.cell (p := ⟨b, off + s * 5, none⟩) hbc.out.1).trans hbc.out.2⟩, r0.frb FB (fun h => h), r1.frb FB (fun h => h)⟩)
    have hb2 := Lib.hid (show b < Z from by
      obtain ⟨b2, off2, e2, h2⟩ := hrB.out s hs
      injection e2 with e2
      injection e2 with e3 e4
      rw [e3]; exact h2)
    have hsP := hs
    refine seq_start [(0, true), (1, true), (2, true), (3, true), (4, true), (5, true), (6, true), (7, true), (8, true), (9, false), (10, false), (11, true)] (fun w' => w'.cell? ⟨Z, 0, none⟩ = some (.slice (some ⟨b, off, none⟩) n c) ∧ w'.cell? ⟨Z, 1, none⟩ = some (.int .i64 most) ∧ w'.cell? ⟨b, off + s * 5, none⟩ = some (.int .i64 zg)) (by kernel_rfl) (by kernel_rfl) rfl (by kernel_rfl) (key.out w4.drew ⟨rfl, rfl, rfl, Nat.le_refl _, fun _ _ => rfl⟩).1 ?_
    iterate 9 (refine seq_read rfl (by first | rfl | (go_simp; done)) (fun w' hw => by obtain ⟨s0, s1, s2⟩ := hw; go_simp; with_reducible rfl) ?_; try simp only [Act.put, List.setIfInBounds_toArray, List.set_cons_zero, List.set_cons_succ])
    have B6 := Lib.hid (show Below w4.heap.size w4 w4.drew from ⟨rfl, rfl, rfl, Nat.le_refl _, fun _ _ => rfl⟩)
    generalize w4.drew = w5 at *
    refine seq_call rfl (fun K hK => ?_)
    go_simp
    refine (wd.out _ B6.out).mono ?_
    rintro e w6 ⟨A6, k6, rfl, O6, F6⟩
    have F7 := Lib.hid (B6.out.trans (F6.mono B6.out.size))
    refine hK.out _ _ (key.out _ F7.out).1 ?_
    clear hK K
    try simp only [Act.put, List.setIfInBounds_toArray, List.set_cons_zero, List.set_cons_succ]
    obtain ⟨⟨k0, k1, k2⟩, rr0, rr1⟩ := key.out _ F7.out
    have CG : ∀ u v : Value, ∀ w' : World, w' = (w6.setCell ⟨Z + 1, 0, none⟩ u).setCell ⟨Z + 1, 1, none⟩ v → (w'.cell? ⟨Z, 0, none⟩ = some (.slice (some ⟨b, off, none⟩) n c) ∧ w'.cell? ⟨Z, 1, none⟩ = some (.int .i64 most) ∧ w'.cell? ⟨b, off + s * 5, none⟩ = some (.int .i64 zg)) := fun u v w' e => by
      subst e
      have hb3 := hb2.out
      have k : ∀ b o, b ≠ Z + 1 → ((w6.setCell ⟨Z + 1, 0, none⟩ u).setCell ⟨Z + 1, 1, none⟩ v).cell? ⟨b, o, none⟩ = w6.cell? ⟨b, o, none⟩ := fun b o hb => by
        rw [World.cell?_setCell_other _ _ _ _ (fun e => hb (by injection e with e1 e2; exact e1.symm)), World.cell?_setCell_other _ _ _ _ (fun e => hb (by injection e with e1 e2; exact e1.symm))]
      exact ⟨(k _ _ (by omega)).trans k0, (k _ _ (by omega)).trans k1, (k _ _ (by omega)).trans k2⟩
    replace CG := Lib.hid CG
    have fR0 := Lib.hid ((rr0.same (.slice A6 n k6)).other (b' := Z + 1) (o' := 1) (.inr (by decide)) (.int .i64 most))
    have fR1 := Lib.hid ((rr1.other (b' := Z + 1) (o' := 0) (.inr (by decide)) (.slice A6 n k6)).same (.int .i64 most))
    have s5 : Z + 2 ≤ w5.heap.size := by have := B6.out.size; omega
    have FS : FrB (fun k => k = Z + 1) w6 ((w6.setCell ⟨Z + 1, 0, none⟩ (.slice A6 n k6)).setCell ⟨Z + 1, 1, none⟩ (.int .i64 most)) := (FrB.set w6 ⟨Z + 1, 0, none⟩ _).then_ (FrB.set _ ⟨Z + 1, 1, none⟩ _) (fun _ _ h => h)
    have RD := Lib.hid (((RowD.of_own O6).frb FS (fun k hk e => by have h9 : w5.heap.size ≤ k := hk; omega)).mono (E' := E) (fun k hk => hE.out k (by omega)))
    have BF := Lib.hid ((((B4.out.trans (B6.out.mono (by omega))).trans (F6.mono (by omega))).setCell (p := ⟨Z + 1, 0, none⟩) (by show Z ≤ Z + 1; omega) (.slice A6 n k6)).setCell (p := ⟨Z + 1, 1, none⟩) (by show Z ≤ Z + 1; omega) (.int .i64 most))
    have rr0a := rr0.1; have rr0b := rr0.2; have rr1a := rr1.1; have rr1b := rr1.2
    clear FS O6 F6 rr0 rr1 k0 k1 k2 key CE
    refine seq_call rfl (fun K hK => ?_)
    go_simp
    refine hK.out _ _ (CG.out _ _ _ rfl) ?_
    clear hK K
    try simp only [Act.put, List.setIfInBounds_toArray, List.set_cons_zero, List.set_cons_succ]
    iterate 1 (refine seq_read rfl (by first | rfl | (go_simp; done)) (fun w' hw => by go_simp; with_reducible rfl) ?_; try simp only [Act.put, List.setIfInBounds_toArray, List.set_cons_zero, List.set_cons_succ])
    refine seq_done ?_
    clear CG rr0a rr0b rr1a rr1b B6 F7 wd
    generalize (w6.setCell ⟨Z + 1, 0, none⟩ (.slice A6 n k6)).setCell ⟨Z + 1, 1, none⟩ (.int .i64 most) = wF at *
    obtain ⟨g0, g0'⟩ := fR0.out
    obtain ⟨g1, g1'⟩ := fR1.out
    go_wp2
    refine bodyPost_ret (v := .tuple #[.agg #[.slice A6 n k6, .int .i64 most], .int .i64 0]) ?hres rfl ?hend
    case hend =>
      refine ⟨A6, k6, ?_, ?_, ?_⟩
      · rw [hf.out]; rfl
      · rw [hf.out, hrp.out]; exact RD.out
      · first
          | exact BF.out
          | (rw [hZ.out]; exact BF.out)
    case hres => simp [results, Tryd.results28, go_sem, *]
end Go.Proofs.YtaflekpfpdnbcaaDoor
