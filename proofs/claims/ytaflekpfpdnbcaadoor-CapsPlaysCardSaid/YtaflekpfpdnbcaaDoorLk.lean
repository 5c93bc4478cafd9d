/- What a handle stands for. -/
import Derived.Test.YtaflekpfpdnbcaaDoorRw5
namespace Go.Proofs.YtaflekpfpdnbcaaDoor
open Go.RowKit
set_option linter.unusedVariables false
set_option linter.unusedSimpArgs false
set_option linter.unusedSectionVars false
set_option maxRecDepth 100000

/-- What Look answers. -/
def lookA (P : List Pc) : Option Nat → Value
  | none => .tuple #[.agg #[.int .i64 0, .int .i64 0, .int .i64 0], .int .i64 5]
  | some s => .tuple #[.agg #[.int .i64 (P.getD s Pc.new).kind, .int .i64 (P.getD s Pc.new).index, .int .i64 ((P.getD s Pc.new).rights : Nat)], .int .i64 0]
set_option maxHeartbeats 8000000 in
theorem lookT_c {w : World} {T : TD} {P : List Pc} {most : Nat} (h : TabS w T P most) (hd : Nat) (hh : hd < 18446744073709551616) :
    Calls Tryd.prog 13 #[.pointer (some ⟨T.t, 0, none⟩), .int .u64 hd] w fun e w' => e = .returned (lookA P (findP P hd)) ∧ Below w.heap.size w w' := by
  have B1 := blA (Below.refl w.heap.size w) (.cells #[.int .i64 0, .int .i64 0, .int .i64 0] 30)
  have z0 := Cel.new w #[.int .i64 0, .int .i64 0, .int .i64 0] 30 0 (.int .i64 0) rfl
  have z1 := Cel.new w #[.int .i64 0, .int .i64 0, .int .i64 0] 30 1 (.int .i64 0) rfl
  have z2 := Cel.new w #[.int .i64 0, .int .i64 0, .int .i64 0] 30 2 (.int .i64 0) rfl
  have rc := row_c (h.below B1) hd hh
  have hZl : w.heap.size < (w.alloc (.cells #[.int .i64 0, .int .i64 0, .int .i64 0] 30)).heap.size := by simp
  replace B1 := Lib.hid B1
  clear h
  go_enter Tryd.func13, Tryd.ntmps13
  go_wp2_with fail
  generalize w.alloc (.cells #[.int .i64 0, .int .i64 0, .int .i64 0] 30) = w1 at *
  refine rc.mono ?_
  rintro e w2 ⟨rfl, F⟩
  have F1 := FrB.of_below (S := fun _ => False) F (Nat.le_refl _)
  replace z0 := z0.frb F1 (fun h => h); replace z1 := z1.frb F1 (fun h => h); replace z2 := z2.frb F1 (fun h => h)
  have hZ2 : w.heap.size < w2.heap.size := Nat.lt_of_lt_of_le hZl F.size
  have B2 := Lib.hid (B1.out.trans (F.mono (by omega)))
  have hne : w2.heap.size ≠ w.heap.size := by omega
  have z0a := z0.1; have z0b := z0.2; have z1a := z1.1; have z1b := z1.2; have z2a := z2.1; have z2b := z2.2
  clear F F1 hZl rc
  cases hf : findP P hd with
  | none =>
    replace hf := Lib.hid hf
    unfold rowA
    clear z0 z1 z2
    go_wp2
    refine bodyPost_ret (v := .tuple #[.agg #[.int .i64 0, .int .i64 0, .int .i64 0], .int .i64 5]) ?hres1 rfl ?hend1
    case hend1 => exact ⟨by rw [hf.out]; rfl, (Below.alloc (((B2.out.setCell (p := ⟨w.heap.size, 0, none⟩) (Nat.le_refl _) _).setCell (p := ⟨w.heap.size, 1, none⟩) (Nat.le_refl _) _).setCell (p := ⟨w.heap.size, 2, none⟩) (Nat.le_refl _) _) (by simp; omega) _)⟩
    case hres1 => simp [results, Tryd.results13, go_sem, *]
  | some s =>
    have ea := Lib.hid (show lookA P (some s) = .tuple #[.agg #[.int .i64 (P.getD s Pc.new).kind, .int .i64 (P.getD s Pc.new).index, .int .i64 ((P.getD s Pc.new).rights : Nat)], .int .i64 0] from rfl)
    replace hf := Lib.hid hf
    unfold rowA
    simp only []
    generalize (P.getD s Pc.new).kind = k at *
    generalize (P.getD s Pc.new).index = i at *
    generalize (P.getD s Pc.new).rights = r at *
    generalize (P.getD s Pc.new).gen = g at *
    clear z0 z1 z2
    go_wp2
    refine bodyPost_ret (v := .tuple #[.agg #[.int .i64 k, .int .i64 i, .int .i64 (r : Nat)], .int .i64 0]) ?hres2 rfl ?hend2
    case hend2 => exact ⟨by rw [hf.out, ea.out], (Below.alloc (((B2.out.setCell (p := ⟨w.heap.size, 0, none⟩) (Nat.le_refl _) _).setCell (p := ⟨w.heap.size, 1, none⟩) (Nat.le_refl _) _).setCell (p := ⟨w.heap.size, 2, none⟩) (Nat.le_refl _) _) (by simp; omega) _)⟩
    case hres2 => simp [results, Tryd.results13, go_sem, *]
/-- What Need answers. -/
def needA (P : List Pc) (kind rights : Int) : Option Nat → Int × Int
  | none => (0, 5)
  | some s => if (P.getD s Pc.new).kind ≠ kind then (0, 7) else if bits .and .i64 ((P.getD s Pc.new).rights : Nat) rights ≠ rights then (0, 6) else ((P.getD s Pc.new).index, 0)
set_option maxHeartbeats 8000000 in
theorem need_c {w : World} {T : TD} {P : List Pc} {most : Nat} (h : TabS w T P most) (hd : Nat) (hh : hd < 18446744073709551616) (kind rights : Int) :
    Calls Tryd.prog 19 #[.pointer (some ⟨T.t, 0, none⟩), .int .u64 hd, .int .i64 kind, .int .i64 rights] w fun e w' => e = .returned (.tuple #[.int .i64 (needA P kind rights (findP P hd)).1, .int .i64 (needA P kind rights (findP P hd)).2]) ∧ Below w.heap.size w w' := by
  have lc := lookT_c h hd hh
  clear h
  go_enter Tryd.func19, Tryd.ntmps19
  go_wp2_with fail
  refine lc.mono ?_
  rintro e w2 ⟨rfl, F⟩
  clear lc
  cases hf : findP P hd with
  | none =>
    replace hf := Lib.hid hf
    have B2 := Lib.hid (blA F (.cells #[.int .i64 0, .int .i64 0, .int .i64 0] 30))
    unfold lookA
    clear F
    go_wp2
    go_ret2
    exact ⟨by rw [hf.out]; rfl, B2.out⟩
  | some s =>
    replace hf := Lib.hid hf
    have ea : needA P kind rights (some s) = if (P.getD s Pc.new).kind ≠ kind then (0, 7) else if bits .and .i64 ((P.getD s Pc.new).rights : Nat) rights ≠ rights then (0, 6) else ((P.getD s Pc.new).index, 0) := rfl
    unfold lookA
    simp only []
    generalize (P.getD s Pc.new).kind = k at *
    generalize (P.getD s Pc.new).index = i at *
    generalize (P.getD s Pc.new).rights = r at *
    have B2 := Lib.hid (blA F (.cells #[.int .i64 k, .int .i64 i, .int .i64 r] 30))
    clear F
    by_cases h1 : k = kind
    · subst h1
      have e1 : (k != k) = false := by simp
      by_cases h2 : bits .and .i64 (r : Int) rights = rights
      · rw [if_neg (by simp), if_neg (by simp [h2])] at ea
        have e2 : (bits .and .i64 (r : Int) rights != rights) = false := by rw [h2]; simp
        replace ea := Lib.hid ea
        replace h2 := Lib.hid h2
        go_wp2
        go_ret2
        exact ⟨by rw [hf.out, ea.out]; rfl, B2.out⟩
      · rw [if_neg (by simp), if_pos h2] at ea
        have e2 : (bits .and .i64 (r : Int) rights != rights) = true := by simpa using h2
        replace ea := Lib.hid ea
        clear h2
        go_wp2
        go_ret2
        exact ⟨by rw [hf.out, ea.out]; rfl, B2.out⟩
    · rw [if_pos h1] at ea
      have e1 : (k != kind) = true := by simpa using h1
      replace ea := Lib.hid ea
      clear h1
      go_wp2
      go_ret2
      exact ⟨by rw [hf.out, ea.out]; rfl, B2.out⟩
theorem dead_c {w : World} {T : TD} {P : List Pc} {most : Nat} (h : TabS w T P most) :
    Calls Tryd.prog 15 #[.pointer (some ⟨T.t, 0, none⟩)] w fun e w' => e = .returned (.int .i64 (P.countP (Pc.dead most))) ∧ w = w' := by
  have a3 := h.c3.1
  clear h
  go_enter Tryd.func15, Tryd.ntmps15
  go_wp2
  go_ret
  exact ⟨rfl, rfl⟩
theorem count_split (most : Nat) (P : List Pc) : (xP most P).count true = P.countP Pc.is + P.countP (Pc.dead most) := by
  induction P with
  | nil => rfl
  | cons x t ih =>
    simp only [List.map_cons, List.count_cons, List.countP_cons, ih]
    unfold Pc.full Pc.dead
    cases x.is <;> cases decide (most ≤ x.gen) <;> simp <;> omega
set_option maxHeartbeats 4000000 in
theorem count_c {w : World} {T : TD} {P : List Pc} {most : Nat} (h : TabS w T P most) :
    Calls Tryd.prog 14 #[.pointer (some ⟨T.t, 0, none⟩)] w fun e w' => e = .returned (.int .i64 (P.countP Pc.is)) ∧ Below w.heap.size w w' := by
  have hl := h.len
  have hn := h.n
  have x0 := h.c0; have x3 := h.c3
  obtain ⟨d, hd⟩ : ∃ d, d = P.countP (Pc.dead most) := ⟨_, rfl⟩
  obtain ⟨l, hlv⟩ : ∃ d, d = P.countP Pc.is := ⟨_, rfl⟩
  have hs := count_split most P
  obtain ⟨a, ha⟩ : ∃ d, d = (xP most P).count true := ⟨_, rfl⟩
  have hc := fun w (h : TabS w T P most) => count_R h.R
  have hd2 : d ≤ 256 := by rw [hd]; exact Nat.le_trans List.countP_le_length (by omega)
  have hl2 : l ≤ 256 := by rw [hlv]; exact Nat.le_trans List.countP_le_length (by omega)
  rw [← hd] at x3
  rw [← hlv]
  rw [← ha] at hc hs
  rw [← hd, ← hlv] at hs
  have H := Lib.hid h
  have B := Lib.hid (Below.refl w.heap.size w)
  replace hc := Lib.hid hc; replace hd := Lib.hid hd; replace hlv := Lib.hid hlv; replace ha := Lib.hid ha; replace hs := Lib.hid hs
  have ha2 : a ≤ 600 := by have := hs.out; omega
  clear h hl hn
  go_enter Tryd.func14, Tryd.ntmps14
  go_wp2_with fail
  generalize hZ : w.heap.size = Zb at *
  replace hZ := Lib.hid hZ
  refine seq_start [(0, true), (1, true), (2, true), (3, true), (5, true), (6, true), (7, true), (8, true), (4, false), (9, true), (10, true)] (fun w' => w'.cell? ⟨T.t, 0, none⟩ = some (.pointer (some ⟨T.r, 0, none⟩)) ∧ w'.cell? ⟨T.t, 3, none⟩ = some (.int .i64 d)) (by kernel_rfl) (by kernel_rfl) rfl (by kernel_rfl) ⟨x0.1, x3.1⟩ ?_
  iterate 8 (refine seq_read rfl (by first | rfl | (go_simp; done)) (fun w' hw => by obtain ⟨s0, s1⟩ := hw; go_simp; with_reducible rfl) ?_; try simp only [Act.put, List.setIfInBounds_toArray, List.set_cons_zero, List.set_cons_succ])
  replace x0 := x0.drew; replace x3 := x3.drew
  replace H := Lib.hid H.out.drew
  have B2 : Hid (Below Zb w w.drew) := Lib.hid ⟨B.out.os, B.out.tape, B.out.output, B.out.size, B.out.block⟩
  generalize w.drew = w1 at *
  refine seq_call rfl (fun K hK => ?_)
  go_simp
  refine (hc.out w1 H.out).mono ?_
  rintro e w2 ⟨rfl, rfl⟩
  refine hK.out _ _ ⟨x0.1, x3.1⟩ ?_
  clear hK K
  try simp only [Act.put, List.setIfInBounds_toArray, List.set_cons_zero, List.set_cons_succ]
  iterate 2 (refine seq_read rfl (by first | rfl | (go_simp; done)) (fun w' hw => by obtain ⟨s0, s1⟩ := hw; go_simp; with_reducible rfl) ?_; try simp only [Act.put, List.setIfInBounds_toArray, List.set_cons_zero, List.set_cons_succ])
  refine seq_done ?_
  go_wp2
  go_ret
  refine ⟨?_, by rw [hZ.out]; exact B2.out⟩
  have := hs.out
  show Ending.returned (.int .i64 (IntKind.i64.wrap ((a : Int) - (d : Int)))) = _
  rw [show IntKind.i64.wrap ((a : Int) - (d : Int)) = (l : Int) by rw [IntKind.wrap_i64]; omega]
end Go.Proofs.YtaflekpfpdnbcaaDoor
