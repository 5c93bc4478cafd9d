/- Contracts of the document's answer for queues. -/
import Derived.Test.YthapdlgaccfbfaaQuL
import Derived.Deep.CutRange
namespace Go.Proofs.Ythapdlgaccfbfaa
open Go.RowKit
set_option linter.unusedVariables false
set_option linter.unusedSimpArgs false
set_option linter.unusedSectionVars false
set_option maxRecDepth 100000

def trE : Enc Th where
  t := 41
  sz := 2
  f := fun x => [.int .i64 x.1, .int .i64 x.2]
  z := .agg #[.int .i64 0, .int .i64 0]
  bytes := 16
  len := fun x => rfl
  one := fun x v h => by simp at h; rcases h with rfl | rfl <;> rfl
  info := by kernel_rfl
  zs := rfl
  pos := by decide
  small := by decide
theorem OwnE.atR {w : World} {base g n c i : Nat} {L : List Th} (h : OwnE trE w base (.slice (some ⟨g, 0, none⟩) n c) L) (hi : i < L.length) : Cel w g (i * 2) (.int .i64 L[i].1) ∧ Cel w g (i * 2 + 1) (.int .i64 L[i].2) :=
  ⟨OwnE.cel (E := trE) (j := 0) h hi rfl, OwnE.cel (E := trE) (j := 1) h hi rfl⟩
theorem eqTr0 (w : World) (x y : Th) : (Op.equalIn 10000 41 (thV x) (thV y)).run Try.prog w = .ok (x.1 == y.1 && (x.2 == y.2 && true)) w := by
  refine eqs_of (d := 9999) Try.underlying41 (by kernel_rfl) ?_
  refine eqs_cons (by rfl) (by go_simp; rfl) (by go_simp; rfl) (by go_simp) ?_
  refine eqs_cons (by rfl) (by go_simp; rfl) (by go_simp; rfl) (by go_simp) ?_
  exact eqs_nil
theorem eqTr (w : World) (x y : Th) : (Op.equalIn 10000 41 (thV x) (thV y)).run Try.prog w = .ok (decide (x = y)) w := by
  rw [eqTr0]
  congr 1
  obtain ⟨a, b⟩ := x; obtain ⟨c, d⟩ := y
  rw [Bool.eq_iff_iff]
  simp
theorem eqTrT {x y : Th} (h : x = y) : ∀ w, (Op.equalIn 10000 41 (.agg #[.int .i64 x.1, .int .i64 x.2]) (.agg #[.int .i64 y.1, .int .i64 y.2])).run Try.prog w = .ok true w := fun w => (eqTr w x y).trans (by rw [decide_eq_true h])
theorem eqTrF {x y : Th} (h : ¬ x = y) : ∀ w, (Op.equalIn 10000 41 (.agg #[.int .i64 x.1, .int .i64 x.2]) (.agg #[.int .i64 y.1, .int .i64 y.2])).run Try.prog w = .ok false w := fun w => (eqTr w x y).trans (by rw [decide_eq_false h])

/-- The document's queue. -/
abbrev quV (t d mo : Nat) (s : Value) : Value := .agg #[.int .i64 t, .int .i64 d, .int .i64 mo, s]
abbrev quC (t d mo : Nat) (s : Value) : Obj := .cells #[.int .i64 t, .int .i64 d, .int .i64 mo, s] 36

set_option maxHeartbeats 4000000 in
theorem rhasQ_c {w : World} {base c t d mo : Nat} {A : Option Addr} {T : List Th} (h : OwnE trE w base (.slice A T.length c) T) (hl : T.length ≤ 4096) (x : Th) :
    Calls Try.prog 26 #[quV t d mo (.slice A T.length c), thV x] w fun e w' => e = .returned (.bool (decide (x ∈ T))) ∧ Below w.heap.size w w' := by
  have B1 := Below.alloc (Below.refl w.heap.size w) (Nat.le_refl _) (quC t d mo (.slice A T.length c))
  have B2 := Below.alloc B1 B1.size (.cells #[.int .i64 x.1, .int .i64 x.2] 41)
  have O := Lib.hid ((h.alloc (quC t d mo (.slice A T.length c))).alloc (.cells #[.int .i64 x.1, .int .i64 x.2] 41))
  have z3 := ((Cel.new w #[.int .i64 t, .int .i64 d, .int .i64 mo, .slice A T.length c] 36 3 _ rfl).alloc (.cells #[.int .i64 x.1, .int .i64 x.2] 41))
  have y0 := (Cel.new (w.alloc (quC t d mo (.slice A T.length c))) #[.int .i64 x.1, .int .i64 x.2] 41 0 _ rfl)
  have y1 := (Cel.new (w.alloc (quC t d mo (.slice A T.length c))) #[.int .i64 x.1, .int .i64 x.2] 41 1 _ rfl)
  rw [show (w.alloc (quC t d mo (.slice A T.length c))).heap.size = w.heap.size + 1 by simp] at y0 y1
  replace B2 := Lib.hid B2; replace z3 := Lib.hid z3; replace y0 := Lib.hid y0; replace y1 := Lib.hid y1
  clear h B1
  go_enter Try.func26, Try.ntmps26
  go_wp2_with fail
  generalize (w.alloc (.cells #[.int .i64 t, .int .i64 d, .int .i64 mo, .slice A T.length c] 36)).alloc (.cells #[.int .i64 x.1, .int .i64 x.2] 41) = W at *
  go_loopw [5] (fun ii wr => ∃ (i : Nat), ii = .int .i64 i ∧ Hid (∃ n, wr = W.drewN n) ∧ Hid (i ≤ T.length) ∧ Hid (x ∉ T.take i)) (fun ii _ => T.length - (intOf ii).toNat)
  case atStart => exact ⟨0, rfl, Lib.hid ⟨0, rfl⟩, Lib.hid (Nat.zero_le _), Lib.hid (by simp)⟩
  case round =>
    obtain ⟨i, rfl, hw, hi, hno⟩ := hrel
    have q3 : wr.cell? ⟨w.heap.size, 3, none⟩ = some (.slice A T.length c) := by obtain ⟨n, hn⟩ := hw.out; rw [hn]; exact (z3.out.drewN n).1
    have k0 : wr.cell? ⟨w.heap.size + 1, 0, none⟩ = some (.int .i64 x.1) := by obtain ⟨n, hn⟩ := hw.out; rw [hn]; exact (y0.out.drewN n).1
    have k1 : wr.cell? ⟨w.heap.size + 1, 1, none⟩ = some (.int .i64 x.2) := by obtain ⟨n, hn⟩ := hw.out; rw [hn]; exact (y1.out.drewN n).1
    have O2 := Lib.hid (show OwnE trE wr base (.slice A T.length c) T by obtain ⟨n, hn⟩ := hw.out; rw [hn]; exact O.out.drewN n)
    have hBw := Lib.hid (show Below w.heap.size w wr by obtain ⟨n, hn⟩ := hw.out; rw [hn]; exact ⟨B2.out.os, B2.out.tape, B2.out.output, B2.out.size, B2.out.block⟩)
    by_cases hlt : i < T.length
    · obtain ⟨g, c', e, _, hgs, _⟩ := O2.out.pos (by omega)
      injection e with e1 e2 e3
      subst e1; subst e3
      obtain ⟨⟨u0, -⟩, ⟨u1, -⟩⟩ := O2.out.atR hlt
      have hts : T.take (i + 1) = T.take i ++ [T[i]] := List.take_succ_eq_append_getElem hlt
      have hmem := List.getElem_mem hlt
      generalize T[i] = y at *
      have hi4 : i < 4096 := by omega
      clear e2
      by_cases hyx : y = x
      · have heq := eqTrT hyx
        have hd := Lib.hid (show decide (x ∈ T) = true from decide_eq_true (hyx ▸ hmem))
        replace hyx := Lib.hid hyx
        clear hts hmem
        go_wp2
        go_quiet (fail)
        go_wp2
        go_ret
        exact ⟨by rw [hd.out]; rfl, ⟨hBw.out.os, hBw.out.tape, hBw.out.output, hBw.out.size, hBw.out.block⟩⟩
      · have heq := eqTrF hyx
        have hno2 := Lib.hid (show x ∉ T.take (i + 1) from by rw [hts]; simp only [List.mem_append, List.mem_singleton]; exact fun h => h.elim hno.out (fun e => hyx e.symm))
        replace hyx := Lib.hid hyx
        clear hts hmem hno
        go_wp2
        go_quiet (fail)
        go_wp2
        go_roundw
        case rel => exact ⟨i + 1, by go_num, Lib.hid (by obtain ⟨n, hn⟩ := hw.out; exact ⟨n + nq, by rw [hn]; exact World.drewN_drewN _ _ _⟩), Lib.hid (by omega), hno2⟩
        case measure => simp [intOf]; omega
    · have hd := Lib.hid (show decide (x ∈ T) = false from decide_eq_false (by have := hno.out; rwa [List.take_of_length_le (by omega)] at this))
      clear hno
      go_wp2
      go_ret
      exact ⟨by rw [hd.out]; rfl, hBw.out⟩

set_option maxHeartbeats 4000000 in
theorem rheldQ_c {w : World} {base c t d mo : Nat} {A : Option Addr} {T : List Th} (h : OwnE trE w base (.slice A T.length c) T) (hl : T.length ≤ 4096) :
    Calls Try.prog 27 #[quV t d mo (.slice A T.length c)] w fun e w' => e = .returned (.int .i64 (heldT T)) ∧ Below w.heap.size w w' := by
  have B1 := Lib.hid (Below.alloc (Below.refl w.heap.size w) (Nat.le_refl _) (quC t d mo (.slice A T.length c)))
  have O := Lib.hid (h.alloc (quC t d mo (.slice A T.length c)))
  have z3 := (Cel.new w #[.int .i64 t, .int .i64 d, .int .i64 mo, .slice A T.length c] 36 3 _ rfl).1
  clear h
  go_enter Try.func27, Try.ntmps27
  go_wp2_with fail
  generalize w.alloc (.cells #[.int .i64 t, .int .i64 d, .int .i64 mo, .slice A T.length c] 36) = W at *
  go_loopw [3, 4] (fun nv ii wr => ∃ (n i : Nat), nv = .int .i64 n ∧ ii = .int .i64 i ∧ wr = W ∧ Hid (i ≤ T.length) ∧ Hid (n = heldT (T.take i))) (fun _ ii _ => T.length - (intOf ii).toNat)
  case atStart => exact ⟨0, 0, rfl, rfl, rfl, Lib.hid (Nat.zero_le _), Lib.hid (by simp [heldT])⟩
  case round =>
    obtain ⟨n, i, rfl, rfl, rfl, hi, hn⟩ := hrel
    by_cases hlt : i < T.length
    · obtain ⟨g, c', e, _, hgs, _⟩ := O.out.pos (by omega)
      injection e with e1 e2 e3
      subst e1; subst e3
      obtain ⟨⟨u0, -⟩, -⟩ := O.out.atR hlt
      have hts : heldT (T.take (i + 1)) = n + if T[i].1 = 2 then 1 else 0 := by rw [List.take_succ_eq_append_getElem hlt, heldT_snoc, hn.out]
      have hn4 : n ≤ 4096 := by rw [hn.out]; exact Nat.le_trans List.countP_le_length (by simp; omega)
      generalize T[i] = y at *
      have hi4 : i < 4096 := by omega
      clear e2
      by_cases hy : y.1 = 2
      · rw [if_pos hy] at hts
        rw [hy] at u0
        replace hts := Lib.hid hts
        clear hy hn
        go_wp2
        go_roundw
        case rel => exact ⟨n + 1, i + 1, by go_num, by go_num, by first | trivial | rfl, Lib.hid (by omega), Lib.hid hts.out.symm⟩
        case measure => simp [intOf]; omega
      · rw [if_neg hy] at hts
        have e1 : (y.1 == 2) = false := beq_eq_false_iff_ne.mpr hy
        replace hts := Lib.hid hts
        clear hy hn
        go_wp2
        go_roundw
        case rel => exact ⟨n, i + 1, rfl, by go_num, by first | trivial | rfl, Lib.hid (by omega), Lib.hid hts.out.symm⟩
        case measure => simp [intOf]; omega
    · have hn2 := Lib.hid (show n = heldT T by have := hn.out; rwa [List.take_of_length_le (by omega)] at this)
      clear hn
      go_wp2
      go_ret
      exact ⟨by rw [← hn2.out]; rfl, B1.out⟩

theorem okB_cases2 (t d : Nat) (x : Th) : (x.1 = 1 ∧ (0 ≤ x.2 ∧ x.2 < t)) ∨ (x.1 = 1 ∧ x.2 < 0) ∨ (x.1 = 1 ∧ (0 ≤ x.2 ∧ (t : Int) ≤ x.2)) ∨ (x.1 = 2 ∧ (0 ≤ x.2 ∧ x.2 < d)) ∨ (x.1 = 2 ∧ x.2 < 0) ∨ (x.1 = 2 ∧ (0 ≤ x.2 ∧ (d : Int) ≤ x.2)) ∨ (x.1 ≠ 1 ∧ x.1 ≠ 2 ∧ x.2 < 0) ∨ (x.1 ≠ 1 ∧ x.1 ≠ 2 ∧ 0 ≤ x.2) := by omega
set_option maxHeartbeats 4000000 in
theorem risQ_c (w : World) (t d mo n c : Nat) (A : Option Addr) (x : Th) :
    Calls Try.prog 25 #[quV t d mo (.slice A n c), thV x] w fun e w' => e = .returned (.bool (okB t d x)) ∧ Below w.heap.size w w' := by
  have B1 := Below.alloc (Below.refl w.heap.size w) (Nat.le_refl _) (quC t d mo (.slice A n c))
  have B2 := Lib.hid (Below.alloc B1 B1.size (.cells #[.int .i64 x.1, .int .i64 x.2] 41))
  have z0 := ((Cel.new w #[.int .i64 t, .int .i64 d, .int .i64 mo, .slice A n c] 36 0 _ rfl).alloc (.cells #[.int .i64 x.1, .int .i64 x.2] 41)).1
  have z1 := ((Cel.new w #[.int .i64 t, .int .i64 d, .int .i64 mo, .slice A n c] 36 1 _ rfl).alloc (.cells #[.int .i64 x.1, .int .i64 x.2] 41)).1
  have y0 := (Cel.new (w.alloc (quC t d mo (.slice A n c))) #[.int .i64 x.1, .int .i64 x.2] 41 0 _ rfl).1
  have y1 := (Cel.new (w.alloc (quC t d mo (.slice A n c))) #[.int .i64 x.1, .int .i64 x.2] 41 1 _ rfl).1
  rw [show (w.alloc (quC t d mo (.slice A n c))).heap.size = w.heap.size + 1 by simp] at y0 y1
  clear B1
  go_enter Try.func25, Try.ntmps25
  go_upto_region 1 with fail
  generalize (w.alloc (.cells #[.int .i64 t, .int .i64 d, .int .i64 mo, .slice A n c] 36)).alloc (.cells #[.int .i64 x.1, .int .i64 x.2] 41) = W at *
  rcases okB_cases2 t d x with ⟨h1, h2, h3⟩ | ⟨h1, h2⟩ | ⟨h1, h2, h3⟩ | ⟨h1, h2, h3⟩ | ⟨h1, h2⟩ | ⟨h1, h2, h3⟩ | ⟨h1, h2, h3⟩ | ⟨h1, h2, h3⟩
  · have f1 : (x.1 == 1) = true := by rw [h1]; rfl
    have f4 : (x.1 == 2) = false := by rw [h1]; rfl
    have f2 : decide ((0 : Int) ≤ x.2) = true := by simp; omega
    have f3 : decide (x.2 < (t : Int)) = true := by simp; omega
    have hok := Lib.hid (show okB t d x = true from okB_iff.2 (.inl ⟨h1, h2, h3⟩))
    clear h1 h2 h3
    go_wp2
    go_ret
    exact ⟨by rw [hok.out]; rfl, B2.out⟩
  · have f1 : (x.1 == 1) = true := by rw [h1]; rfl
    have f4 : (x.1 == 2) = false := by rw [h1]; rfl
    have f2 : decide ((0 : Int) ≤ x.2) = false := by simp; omega
    have hok := Lib.hid (show okB t d x = false by rw [← Bool.not_eq_true, okB_iff]; omega)
    clear h1 h2
    go_wp2
    go_ret
    exact ⟨by rw [hok.out]; rfl, B2.out⟩
  · have f1 : (x.1 == 1) = true := by rw [h1]; rfl
    have f4 : (x.1 == 2) = false := by rw [h1]; rfl
    have f2 : decide ((0 : Int) ≤ x.2) = true := by simp; omega
    have f3 : decide (x.2 < (t : Int)) = false := by simp; omega
    have hok := Lib.hid (show okB t d x = false by rw [← Bool.not_eq_true, okB_iff]; omega)
    clear h1 h2 h3
    go_wp2
    go_ret
    exact ⟨by rw [hok.out]; rfl, B2.out⟩
  · have f1 : (x.1 == 1) = false := by rw [h1]; rfl
    have f4 : (x.1 == 2) = true := by rw [h1]; rfl
    have f2 : decide ((0 : Int) ≤ x.2) = true := by simp; omega
    have f5 : decide (x.2 < (d : Int)) = true := by simp; omega
    have hok := Lib.hid (show okB t d x = true from okB_iff.2 (.inr ⟨h1, h2, h3⟩))
    clear h1 h2 h3
    go_wp2
    go_ret
    exact ⟨by rw [hok.out]; rfl, B2.out⟩
  · have f1 : (x.1 == 1) = false := by rw [h1]; rfl
    have f4 : (x.1 == 2) = true := by rw [h1]; rfl
    have f2 : decide ((0 : Int) ≤ x.2) = false := by simp; omega
    have hok := Lib.hid (show okB t d x = false by rw [← Bool.not_eq_true, okB_iff]; omega)
    clear h1 h2
    go_wp2
    go_ret
    exact ⟨by rw [hok.out]; rfl, B2.out⟩
  · have f1 : (x.1 == 1) = false := by rw [h1]; rfl
    have f4 : (x.1 == 2) = true := by rw [h1]; rfl
    have f2 : decide ((0 : Int) ≤ x.2) = true := by simp; omega
    have f5 : decide (x.2 < (d : Int)) = false := by simp; omega
    have hok := Lib.hid (show okB t d x = false by rw [← Bool.not_eq_true, okB_iff]; omega)
    clear h1 h2 h3
    go_wp2
    go_ret
    exact ⟨by rw [hok.out]; rfl, B2.out⟩
  · have f1 : (x.1 == 1) = false := by rw [beq_eq_false_iff_ne]; exact h1
    have f4 : (x.1 == 2) = false := by rw [beq_eq_false_iff_ne]; exact h2
    have f2 : decide ((0 : Int) ≤ x.2) = false := by simp; omega
    have hok := Lib.hid (show okB t d x = false by rw [← Bool.not_eq_true, okB_iff]; omega)
    clear h1 h2 h3
    go_wp2
    go_ret
    exact ⟨by rw [hok.out]; rfl, B2.out⟩
  · have f1 : (x.1 == 1) = false := by rw [beq_eq_false_iff_ne]; exact h1
    have f4 : (x.1 == 2) = false := by rw [beq_eq_false_iff_ne]; exact h2
    have f2 : decide ((0 : Int) ≤ x.2) = true := by simp; omega
    have hok := Lib.hid (show okB t d x = false by rw [← Bool.not_eq_true, okB_iff]; omega)
    clear h1 h2 h3
    go_wp2
    go_ret
    exact ⟨by rw [hok.out]; rfl, B2.out⟩
end Go.Proofs.Ythapdlgaccfbfaa
