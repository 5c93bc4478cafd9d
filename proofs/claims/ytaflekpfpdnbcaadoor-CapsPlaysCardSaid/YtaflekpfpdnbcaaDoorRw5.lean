/- A handle's place. -/
import Derived.Test.YtaflekpfpdnbcaaDoorMt
namespace Go.Proofs.YtaflekpfpdnbcaaDoor
open Go.RowKit
set_option linter.unusedVariables false
set_option linter.unusedSimpArgs false
set_option linter.unusedSectionVars false
set_option maxRecDepth 100000

/-- What row answers. -/
def rowA (P : List Pc) : Option Nat → Value
  | none => .tuple #[.int .i64 0, .agg #[.int .i64 0, .int .i64 0, .int .i64 0, .int .i64 0], .bool false]
  | some s => .tuple #[.int .i64 s, .agg #[.int .i64 ((P.getD s Pc.new).gen : Nat), .int .i64 (P.getD s Pc.new).kind, .int .i64 (P.getD s Pc.new).index, .int .i64 ((P.getD s Pc.new).rights : Nat)], .bool true]
theorem row_way {P : List Pc} {most : Nat} (hpc : ∀ x ∈ P, x.Ok most) (hm : most ≤ 16777215) (h : Nat) {s hg hr : Nat} (es : s = h / 256 % 65536) (eg : hg = h / 16777216) (er : hr = h % 256) :
    ((hasB (xP most P) (s : Int) = false ∨ (hasB (xP most P) (s : Int) = true ∧ atV Rw.zero (vsP P) (xP most P) (s : Int) = ⟨0, 0, 0, 0⟩) ∨
      (∃ (gN R : Nat) (k i : Int), hasB (xP most P) (s : Int) = true ∧ atV Rw.zero (vsP P) (xP most P) (s : Int) = ⟨gN, k, i, R⟩ ∧ 0 < gN ∧ gN ≤ 16777215 ∧ gN ≠ hg) ∨
      (∃ (R : Nat) (k i : Int), hasB (xP most P) (s : Int) = true ∧ atV Rw.zero (vsP P) (xP most P) (s : Int) = ⟨hg, k, i, R⟩ ∧ 0 < hg ∧ hg ≤ 16777215 ∧ R ≠ hr)) ∧ findP P h = none) ∨
    (∃ (k i : Int), hasB (xP most P) (s : Int) = true ∧ atV Rw.zero (vsP P) (xP most P) (s : Int) = ⟨hg, k, i, hr⟩ ∧ 0 < hg ∧ hg ≤ 16777215 ∧ findP P h = some s ∧ P.getD s Pc.new = ⟨hg, true, k, i, hr⟩) := by
  by_cases hs : s < P.length
  · have hx := hasP (most := most) hs
    cases hf : P[s].full most with
    | false =>
      refine .inl ⟨.inl (by rw [hx, hf]), ?_⟩
      unfold findP
      subst es
      rw [dif_pos hs, if_neg]
      rintro ⟨a, -⟩
      unfold Pc.full at hf
      rw [a] at hf; cases hf
    | true =>
      have hv := atP (most := most) hs hf
      have ok := hpc _ (List.getElem_mem hs)
      obtain ⟨x, hxe⟩ : ∃ x, x = P[s] := ⟨_, rfl⟩
      have hgd : P.getD s Pc.new = x := by rw [hxe]; simp [hs]
      rw [← hxe] at hv ok
      obtain ⟨g, is, k, i, r⟩ := x
      cases is with
      | false =>
        refine .inl ⟨.inr (.inl ⟨by rw [hx, hf], hv⟩), ?_⟩
        unfold findP
        subst es
        rw [dif_pos hs, if_neg]
        rintro ⟨a, -⟩
        rw [← hxe] at a; cases a
      | true =>
        have h1 := (ok.is rfl).1
        have h2 := ok.gen
        dsimp only at h1 h2
        by_cases e1 : g = hg
        · by_cases e2 : r = hr
          · refine .inr ⟨k, i, by rw [hx, hf], by rw [hv, e1, e2]; rfl, by omega, by omega, ?_, by rw [hgd, e1, e2]⟩
            unfold findP
            subst es
            rw [dif_pos hs, if_pos]
            rw [← hxe]
            exact ⟨rfl, by rw [← eg]; exact e1, by rw [← er]; exact e2⟩
          · refine .inl ⟨.inr (.inr (.inr ⟨r, k, i, by rw [hx, hf], by rw [hv, ← e1]; rfl, by omega, by omega, e2⟩)), ?_⟩
            unfold findP
            subst es
            rw [dif_pos hs, if_neg]
            rintro ⟨-, -, a⟩
            rw [← hxe] at a
            exact e2 (a.trans er.symm)
        · refine .inl ⟨.inr (.inr (.inl ⟨g, r, k, i, by rw [hx, hf], by rw [hv]; rfl, h1, by omega, e1⟩)), ?_⟩
          unfold findP
          subst es
          rw [dif_pos hs, if_neg]
          rintro ⟨-, a, -⟩
          rw [← hxe] at a
          exact e1 (a.trans eg.symm)
  · refine .inl ⟨.inl (hasB_out (by simpa using hs)), ?_⟩
    unfold findP
    subst es
    rw [dif_neg hs]

set_option maxHeartbeats 8000000 in
theorem row_c {w : World} {T : TD} {P : List Pc} {most : Nat} (h : TabS w T P most) (hd : Nat) (hh : hd < 18446744073709551616) :
    Calls Tryd.prog 32 #[.pointer (some ⟨T.t, 0, none⟩), .int .u64 hd] w fun e w' => e = .returned (rowA P (findP P hd)) ∧ Below w.heap.size w w' := by
  have B1 := blA (Below.refl w.heap.size w) (.cells #[.int .i64 0, .int .i64 0, .int .i64 0, .int .i64 0] 56)
  have z0 := Cel.new w #[.int .i64 0, .int .i64 0, .int .i64 0, .int .i64 0] 56 0 (.int .i64 0) rfl
  have z1 := Cel.new w #[.int .i64 0, .int .i64 0, .int .i64 0, .int .i64 0] 56 1 (.int .i64 0) rfl
  have z2 := Cel.new w #[.int .i64 0, .int .i64 0, .int .i64 0, .int .i64 0] 56 2 (.int .i64 0) rfl
  have z3 := Cel.new w #[.int .i64 0, .int .i64 0, .int .i64 0, .int .i64 0] 56 3 (.int .i64 0) rfl
  have H1 := Lib.hid (h.below B1)
  have a0 := H1.out.c0.1
  have pr := fun w => parts_c w hd hh
  obtain ⟨s, es⟩ : ∃ s, s = hd / 256 % 65536 := ⟨_, rfl⟩
  obtain ⟨hg, eg⟩ : ∃ s, s = hd / 16777216 := ⟨_, rfl⟩
  obtain ⟨hr, er⟩ : ∃ s, s = hd % 256 := ⟨_, rfl⟩
  have way := row_way h.pc h.most.2 hd es eg er
  rw [← es, ← eg, ← er] at pr
  have hs : s < 65536 := by omega
  have hr2 : hr < 256 := by omega
  have hg2 : hg < 1099511627776 := by omega
  have at1 := at_R H1.out.R (s : Int)
  obtain ⟨okb, hok⟩ : ∃ b, b = hasB (xP most P) (s : Int) := ⟨_, rfl⟩
  obtain ⟨rv, hrv⟩ : ∃ b, b = atV Rw.zero (vsP P) (xP most P) (s : Int) := ⟨_, rfl⟩
  rw [← hok, ← hrv] at at1 way
  replace B1 := Lib.hid B1; replace es := Lib.hid es; replace eg := Lib.hid eg; replace er := Lib.hid er; replace hok := Lib.hid hok; replace hrv := Lib.hid hrv
  replace pr := Lib.hid pr
  replace at1 := Lib.hid at1
  have hZl : w.heap.size < (w.alloc (.cells #[.int .i64 0, .int .i64 0, .int .i64 0, .int .i64 0] 56)).heap.size := by simp
  clear h
  go_enter Tryd.func32, Tryd.ntmps32
  go_wp2_with fail
  generalize w.alloc (.cells #[.int .i64 0, .int .i64 0, .int .i64 0, .int .i64 0] 56) = w1 at *
  refine (pr.out w1).mono ?_
  rintro e w2 ⟨rfl, rfl⟩
  go_wp2_with fail
  refine at1.out.mono ?_
  rintro e w2 ⟨rfl, F⟩
  have F1 := FrB.of_below (S := fun _ => False) F (Nat.le_refl _)
  replace z0 := z0.frb F1 (fun h => h); replace z1 := z1.frb F1 (fun h => h); replace z2 := z2.frb F1 (fun h => h); replace z3 := z3.frb F1 (fun h => h)
  have hZ2 : w.heap.size < w2.heap.size := Nat.lt_of_lt_of_le hZl F.size
  have B2 := Lib.hid (B1.out.trans (F.mono (by omega)))
  clear F F1 hZl a0 H1
  rcases way with ⟨hA | ⟨hA, hB⟩ | ⟨gN, R, k, i, hA, hB, hC, hC2, hD⟩ | ⟨R, k, i, hA, hB, hC, hC2, hD⟩, hfd⟩ | ⟨k, i, hA, hB, hC, hC2, hfd, hgd⟩
  · obtain ⟨rg, rk, ri, rr⟩ := rv
    subst hA
    replace hfd := Lib.hid hfd
    have z0a := z0.1; have z0b := z0.2; have z1a := z1.1; have z1b := z1.2; have z2a := z2.1; have z2b := z2.2; have z3a := z3.1; have z3b := z3.2
    have hne : w2.heap.size ≠ w.heap.size := by omega
    clear z0 z1 z2 z3
    unfold Rw.val
    go_wp2
    refine bodyPost_ret (v := .tuple #[.int .i64 0, .agg #[.int .i64 0, .int .i64 0, .int .i64 0, .int .i64 0], .bool false]) ?hres1 rfl ?hend1
    case hend1 => exact ⟨by rw [hfd.out]; rfl, (Below.alloc ((((B2.out.setCell (p := ⟨w.heap.size, 0, none⟩) (Nat.le_refl _) _).setCell (p := ⟨w.heap.size, 1, none⟩) (Nat.le_refl _) _).setCell (p := ⟨w.heap.size, 2, none⟩) (Nat.le_refl _) _).setCell (p := ⟨w.heap.size, 3, none⟩) (Nat.le_refl _) _) (by simp; omega) _)⟩
    case hres1 => simp [results, Tryd.results32, go_sem, *]
  · subst hA; subst hB
    replace hfd := Lib.hid hfd
    have z0a := z0.1; have z0b := z0.2; have z1a := z1.1; have z1b := z1.2; have z2a := z2.1; have z2b := z2.2; have z3a := z3.1; have z3b := z3.2
    have hne : w2.heap.size ≠ w.heap.size := by omega
    clear z0 z1 z2 z3
    unfold Rw.val
    go_wp2
    refine bodyPost_ret (v := .tuple #[.int .i64 0, .agg #[.int .i64 0, .int .i64 0, .int .i64 0, .int .i64 0], .bool false]) ?hres2 rfl ?hend2
    case hend2 => exact ⟨by rw [hfd.out]; rfl, (Below.alloc ((((B2.out.setCell (p := ⟨w.heap.size, 0, none⟩) (Nat.le_refl _) _).setCell (p := ⟨w.heap.size, 1, none⟩) (Nat.le_refl _) _).setCell (p := ⟨w.heap.size, 2, none⟩) (Nat.le_refl _) _).setCell (p := ⟨w.heap.size, 3, none⟩) (Nat.le_refl _) _) (by simp; omega) _)⟩
    case hres2 => simp [results, Tryd.results32, go_sem, *]
  · subst hA; subst hB
    replace hfd := Lib.hid hfd
    have e1 : ((gN : Int) == 0) = false := by simp; omega
    have e2 : ((gN : Int) != (hg : Int)) = true := by simp; omega
    replace hC := Lib.hid hC; replace hD := Lib.hid hD
    have z0a := z0.1; have z0b := z0.2; have z1a := z1.1; have z1b := z1.2; have z2a := z2.1; have z2b := z2.2; have z3a := z3.1; have z3b := z3.2
    have hne : w2.heap.size ≠ w.heap.size := by omega
    clear z0 z1 z2 z3
    unfold Rw.val
    go_wp2
    refine bodyPost_ret (v := .tuple #[.int .i64 0, .agg #[.int .i64 0, .int .i64 0, .int .i64 0, .int .i64 0], .bool false]) ?hres3 rfl ?hend3
    case hend3 => exact ⟨by rw [hfd.out]; rfl, (Below.alloc ((((B2.out.setCell (p := ⟨w.heap.size, 0, none⟩) (Nat.le_refl _) _).setCell (p := ⟨w.heap.size, 1, none⟩) (Nat.le_refl _) _).setCell (p := ⟨w.heap.size, 2, none⟩) (Nat.le_refl _) _).setCell (p := ⟨w.heap.size, 3, none⟩) (Nat.le_refl _) _) (by simp; omega) _)⟩
    case hres3 => simp [results, Tryd.results32, go_sem, *]
  · subst hA; subst hB
    replace hfd := Lib.hid hfd
    have e1 : ((hg : Int) == 0) = false := by simp; omega
    have e2 : ((hg : Int) != (hg : Int)) = false := by simp
    have e3 : ((R : Int) != (hr : Int)) = true := by simp; omega
    replace hC := Lib.hid hC; replace hD := Lib.hid hD
    have z0a := z0.1; have z0b := z0.2; have z1a := z1.1; have z1b := z1.2; have z2a := z2.1; have z2b := z2.2; have z3a := z3.1; have z3b := z3.2
    have hne : w2.heap.size ≠ w.heap.size := by omega
    clear z0 z1 z2 z3
    unfold Rw.val
    go_wp2
    refine bodyPost_ret (v := .tuple #[.int .i64 0, .agg #[.int .i64 0, .int .i64 0, .int .i64 0, .int .i64 0], .bool false]) ?hres4 rfl ?hend4
    case hend4 => exact ⟨by rw [hfd.out]; rfl, (Below.alloc ((((B2.out.setCell (p := ⟨w.heap.size, 0, none⟩) (Nat.le_refl _) _).setCell (p := ⟨w.heap.size, 1, none⟩) (Nat.le_refl _) _).setCell (p := ⟨w.heap.size, 2, none⟩) (Nat.le_refl _) _).setCell (p := ⟨w.heap.size, 3, none⟩) (Nat.le_refl _) _) (by simp; omega) _)⟩
    case hres4 => simp [results, Tryd.results32, go_sem, *]
  · subst hA; subst hB
    replace hfd := Lib.hid hfd; replace hgd := Lib.hid hgd
    have e1 : ((hg : Int) == 0) = false := by simp; omega
    have e2 : ((hg : Int) != (hg : Int)) = false := by simp
    have e3 : ((hr : Int) != (hr : Int)) = false := by simp
    replace hC := Lib.hid hC
    have t0 := Cel.new w2 #[.int .i64 hg, .int .i64 k, .int .i64 i, .int .i64 hr] 56 0 (.int .i64 hg) rfl
    have t1 := Cel.new w2 #[.int .i64 hg, .int .i64 k, .int .i64 i, .int .i64 hr] 56 1 (.int .i64 k) rfl
    have t2 := Cel.new w2 #[.int .i64 hg, .int .i64 k, .int .i64 i, .int .i64 hr] 56 2 (.int .i64 i) rfl
    have t3 := Cel.new w2 #[.int .i64 hg, .int .i64 k, .int .i64 i, .int .i64 hr] 56 3 (.int .i64 hr) rfl
    replace z0 := z0.alloc (.cells #[.int .i64 hg, .int .i64 k, .int .i64 i, .int .i64 hr] 56); replace z1 := z1.alloc (.cells #[.int .i64 hg, .int .i64 k, .int .i64 i, .int .i64 hr] 56); replace z2 := z2.alloc (.cells #[.int .i64 hg, .int .i64 k, .int .i64 i, .int .i64 hr] 56); replace z3 := z3.alloc (.cells #[.int .i64 hg, .int .i64 k, .int .i64 i, .int .i64 hr] 56)
    have hne : w2.heap.size ≠ w.heap.size := by omega
    replace B2 := Lib.hid (B2.out.alloc (by omega) (.cells #[.int .i64 hg, .int .i64 k, .int .i64 i, .int .i64 hr] 56))
    unfold Rw.val
    go_wp2_with fail
    generalize w2.alloc (.cells #[.int .i64 hg, .int .i64 k, .int .i64 i, .int .i64 hr] 56) = w3 at *
    generalize w2.heap.size = Y at *
    generalize hZ0 : w.heap.size = Zb at *
    replace hZ0 := Lib.hid hZ0
    refine seq_start [(0, true), (1, true), (2, true), (3, false), (4, true)] (fun w' => w'.cell? ⟨Y, 0, none⟩ = some (.int .i64 (hg : Int)) ∧ w'.cell? ⟨Y, 1, none⟩ = some (.int .i64 k) ∧ w'.cell? ⟨Y, 2, none⟩ = some (.int .i64 i) ∧ w'.cell? ⟨Y, 3, none⟩ = some (.int .i64 (hr : Int))) (by kernel_rfl) (by kernel_rfl) rfl (by kernel_rfl) ⟨t0.1, t1.1, t2.1, t3.1⟩ ?_
    iterate 3 (refine seq_read rfl (by first | rfl | (go_simp; done)) (fun w' hw => by obtain ⟨s0, s1, s2, s3⟩ := hw; go_simp; with_reducible rfl) ?_; try simp only [Act.put, List.setIfInBounds_toArray, List.set_cons_zero, List.set_cons_succ])
    replace t0 := t0.drew; replace t1 := t1.drew; replace t2 := t2.drew; replace t3 := t3.drew
    replace z0 := z0.drew; replace z1 := z1.drew; replace z2 := z2.drew; replace z3 := z3.drew
    replace B2 : Hid (Below Zb w w3.drew) := Lib.hid ⟨B2.out.os, B2.out.tape, B2.out.output, B2.out.size, B2.out.block⟩
    generalize w3.drew = w4 at *
    refine seq_call rfl (fun K hK => ?_)
    have z0a := z0.1; have z0b := z0.2; have z1a := z1.1; have z1b := z1.2; have z2a := z2.1; have z2b := z2.2; have z3a := z3.1; have z3b := z3.2
    go_simp
    have v0 := (((t0.other (b' := Zb) (o' := 0) (.inl (Ne.symm hne)) (.int .i64 (hg : Int))).other (b' := Zb) (o' := 1) (.inl (Ne.symm hne)) (.int .i64 k)).other (b' := Zb) (o' := 2) (.inl (Ne.symm hne)) (.int .i64 i)).other (b' := Zb) (o' := 3) (.inl (Ne.symm hne)) (.int .i64 (hr : Int))
    have v1 := (((t1.other (b' := Zb) (o' := 0) (.inl (Ne.symm hne)) (.int .i64 (hg : Int))).other (b' := Zb) (o' := 1) (.inl (Ne.symm hne)) (.int .i64 k)).other (b' := Zb) (o' := 2) (.inl (Ne.symm hne)) (.int .i64 i)).other (b' := Zb) (o' := 3) (.inl (Ne.symm hne)) (.int .i64 (hr : Int))
    have v2 := (((t2.other (b' := Zb) (o' := 0) (.inl (Ne.symm hne)) (.int .i64 (hg : Int))).other (b' := Zb) (o' := 1) (.inl (Ne.symm hne)) (.int .i64 k)).other (b' := Zb) (o' := 2) (.inl (Ne.symm hne)) (.int .i64 i)).other (b' := Zb) (o' := 3) (.inl (Ne.symm hne)) (.int .i64 (hr : Int))
    have v3 := (((t3.other (b' := Zb) (o' := 0) (.inl (Ne.symm hne)) (.int .i64 (hg : Int))).other (b' := Zb) (o' := 1) (.inl (Ne.symm hne)) (.int .i64 k)).other (b' := Zb) (o' := 2) (.inl (Ne.symm hne)) (.int .i64 i)).other (b' := Zb) (o' := 3) (.inl (Ne.symm hne)) (.int .i64 (hr : Int))
    refine hK.out _ _ ⟨v0.1, v1.1, v2.1, v3.1⟩ ?_
    clear hK K v0 v1 v2 v3 t0 t1 t2 t3 z0 z1 z2 z3
    try simp only [Act.put, List.setIfInBounds_toArray, List.set_cons_zero, List.set_cons_succ]
    iterate 1 (refine seq_read rfl (by first | rfl | (go_simp; done)) (fun w' hw => by obtain ⟨s0, s1, s2, s3⟩ := hw; go_simp; with_reducible rfl) ?_; try simp only [Act.put, List.setIfInBounds_toArray, List.set_cons_zero, List.set_cons_succ])
    refine seq_done ?_
    go_wp2
    refine bodyPost_ret (v := .tuple #[.int .i64 (s : Nat), .agg #[.int .i64 (hg : Nat), .int .i64 k, .int .i64 i, .int .i64 (hr : Nat)], .bool true]) ?hres5 rfl ?hend5
    case hend5 => exact ⟨by rw [hfd.out]; unfold rowA; simp only []; rw [hgd.out], by rw [hZ0.out]; exact (((B2.out.setCell (p := ⟨Zb, 0, none⟩) (Nat.le_refl _) _).setCell (p := ⟨Zb, 1, none⟩) (Nat.le_refl _) _).setCell (p := ⟨Zb, 2, none⟩) (Nat.le_refl _) _).setCell (p := ⟨Zb, 3, none⟩) (Nat.le_refl _) _⟩
    case hres5 => simp [results, Tryd.results32, go_sem, *]
end Go.Proofs.YtaflekpfpdnbcaaDoor
