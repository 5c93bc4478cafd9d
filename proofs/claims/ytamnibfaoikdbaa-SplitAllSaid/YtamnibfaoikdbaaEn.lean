/- Entries of scripts, and the contracts of package split's plain functions. -/
import Derived.Test.YtamnibfaoikdbaaOwnE
import Derived.Test.YtamnibfaoikdbaaEq
import Derived.Deep.LoopGhost
namespace Go.Proofs.Ytamnibfaoikdbaa
open Go.RowKit
set_option linter.unusedVariables false
set_option linter.unusedSimpArgs false
set_option maxRecDepth 100000

structure En where
  kind : Int
  who : Int
  n : Int
  call_Op : Int
  call_A : Int
  call_B : Int
  call_C : Int
  dev : Int
  mask : Int
deriving DecidableEq, Inhabited
def En.cells (z : En) : List Value := [.int .i64 z.kind, .int .i64 z.who, .int .i64 z.n, .int .i64 z.call_Op, .int .u64 z.call_A, .int .u64 z.call_B, .int .u64 z.call_C, .int .i64 z.dev, .int .i64 z.mask]
def En.good (z : En) : Prop := (Lit.int .i64 z.kind).wf = true ∧ (Lit.int .i64 z.who).wf = true ∧ (Lit.int .i64 z.n).wf = true ∧ (Lit.int .i64 z.call_Op).wf = true ∧ (Lit.int .u64 z.call_A).wf = true ∧ (Lit.int .u64 z.call_B).wf = true ∧ (Lit.int .u64 z.call_C).wf = true ∧ (Lit.int .i64 z.dev).wf = true ∧ (Lit.int .i64 z.mask).wf = true
def En.val (z : En) : Value := .agg #[.int .i64 z.kind, .int .i64 z.who, .int .i64 z.n, .int .i64 z.call_Op, .int .u64 z.call_A, .int .u64 z.call_B, .int .u64 z.call_C, .int .i64 z.dev, .int .i64 z.mask]
theorem el_En {H : Type} {enc : TypeId × Value → H} {w : World} : ∀ n cs x, DataW.trod enc Try.prog w 0 (fun _ => true) true n 47 cs = some x → ∃ z : En, cs = z.cells ∧ z.good := by
  intro n cs x h
  have hl := (struct_cells Try.underlying47 h).1
  rw [show Try.prog.cellsOf 47 = 9 by kernel_rfl] at hl
  obtain ⟨v0, v1, v2, v3, v4, v5, v6, v7, v8, rfl⟩ : ∃ v0 v1 v2 v3 v4 v5 v6 v7 v8 : Value, cs = [v0, v1, v2, v3, v4, v5, v6, v7, v8] := by
    match cs, hl with
    | [v0, v1, v2, v3, v4, v5, v6, v7, v8], _ => exact ⟨v0, v1, v2, v3, v4, v5, v6, v7, v8, rfl⟩
  obtain ⟨-, n, f⟩ := struct_cells Try.underlying47 h
  obtain ⟨y_0, h_0⟩ := f 0 _ rfl
  replace h_0 : DataW.trod enc Try.prog w 0 (fun _ => true) true n 3 [v0] = some y_0 := h_0
  obtain ⟨a0, e0, g0⟩ := (el_int Try.underlying3) _ _ _ h_0
  obtain rfl : v0 = .int .i64 a0 := by simpa using e0
  obtain ⟨y_1, h_1⟩ := f 1 _ rfl
  replace h_1 : DataW.trod enc Try.prog w 0 (fun _ => true) true n 3 [v1] = some y_1 := h_1
  obtain ⟨a1, e1, g1⟩ := (el_int Try.underlying3) _ _ _ h_1
  obtain rfl : v1 = .int .i64 a1 := by simpa using e1
  obtain ⟨y_2, h_2⟩ := f 2 _ rfl
  replace h_2 : DataW.trod enc Try.prog w 0 (fun _ => true) true n 3 [v2] = some y_2 := h_2
  obtain ⟨a2, e2, g2⟩ := (el_int Try.underlying3) _ _ _ h_2
  obtain rfl : v2 = .int .i64 a2 := by simpa using e2
  obtain ⟨y_3, h_3⟩ := f 3 _ rfl
  replace h_3 : DataW.trod enc Try.prog w 0 (fun _ => true) true n 45 [v3, v4, v5, v6] = some y_3 := h_3
  obtain ⟨-, n_3, f_3⟩ := struct_cells Try.underlying45 h_3
  obtain ⟨y_3_0, h_3_0⟩ := f_3 0 _ rfl
  replace h_3_0 : DataW.trod enc Try.prog w 0 (fun _ => true) true n_3 3 [v3] = some y_3_0 := h_3_0
  obtain ⟨a3, e3, g3⟩ := (el_int Try.underlying3) _ _ _ h_3_0
  obtain rfl : v3 = .int .i64 a3 := by simpa using e3
  obtain ⟨y_3_1, h_3_1⟩ := f_3 1 _ rfl
  replace h_3_1 : DataW.trod enc Try.prog w 0 (fun _ => true) true n_3 24 [v4] = some y_3_1 := h_3_1
  obtain ⟨a4, e4, g4⟩ := (el_int Try.underlying24) _ _ _ h_3_1
  obtain rfl : v4 = .int .u64 a4 := by simpa using e4
  obtain ⟨y_3_2, h_3_2⟩ := f_3 2 _ rfl
  replace h_3_2 : DataW.trod enc Try.prog w 0 (fun _ => true) true n_3 24 [v5] = some y_3_2 := h_3_2
  obtain ⟨a5, e5, g5⟩ := (el_int Try.underlying24) _ _ _ h_3_2
  obtain rfl : v5 = .int .u64 a5 := by simpa using e5
  obtain ⟨y_3_3, h_3_3⟩ := f_3 3 _ rfl
  replace h_3_3 : DataW.trod enc Try.prog w 0 (fun _ => true) true n_3 24 [v6] = some y_3_3 := h_3_3
  obtain ⟨a6, e6, g6⟩ := (el_int Try.underlying24) _ _ _ h_3_3
  obtain rfl : v6 = .int .u64 a6 := by simpa using e6
  obtain ⟨y_4, h_4⟩ := f 4 _ rfl
  replace h_4 : DataW.trod enc Try.prog w 0 (fun _ => true) true n 3 [v7] = some y_4 := h_4
  obtain ⟨a7, e7, g7⟩ := (el_int Try.underlying3) _ _ _ h_4
  obtain rfl : v7 = .int .i64 a7 := by simpa using e7
  obtain ⟨y_5, h_5⟩ := f 5 _ rfl
  replace h_5 : DataW.trod enc Try.prog w 0 (fun _ => true) true n 3 [v8] = some y_5 := h_5
  obtain ⟨a8, e8, g8⟩ := (el_int Try.underlying3) _ _ _ h_5
  obtain rfl : v8 = .int .i64 a8 := by simpa using e8
  exact ⟨⟨a0, a1, a2, a3, a4, a5, a6, a7, a8⟩, rfl, ⟨g0, g1, g2, g3, g4, g5, g6, g7, g8⟩⟩

def enE : Enc En where
  t := 47
  sz := 9
  f := En.cells
  z := .agg #[.int .i64 0, .int .i64 0, .int .i64 0, .int .i64 0, .int .u64 0, .int .u64 0, .int .u64 0, .int .i64 0, .int .i64 0]
  bytes := 72
  len := fun x => rfl
  one := fun x v h => by simp [En.cells] at h; rcases h with rfl | rfl | rfl | rfl | rfl | rfl | rfl | rfl | rfl <;> rfl
  info := by kernel_rfl
  zs := rfl
  pos := by decide
  small := by decide

/-- An element's nine cells. -/
theorem RowAt.en {w : World} {A : Option Addr} {xs : List En} (h : RowAt En.cells 9 w A xs) {i : Nat} (hi : i < xs.length) :
    ∃ b off, A = some ⟨b, off, none⟩ ∧ b < w.heap.size ∧ w.cell? ⟨b, off + i * 9, none⟩ = some (.int .i64 xs[i].kind) ∧ w.cell? ⟨b, off + i * 9 + 1, none⟩ = some (.int .i64 xs[i].who) ∧ w.cell? ⟨b, off + i * 9 + 2, none⟩ = some (.int .i64 xs[i].n)
      ∧ w.cell? ⟨b, off + i * 9 + 3, none⟩ = some (.int .i64 xs[i].call_Op) ∧ w.cell? ⟨b, off + i * 9 + 4, none⟩ = some (.int .u64 xs[i].call_A) ∧ w.cell? ⟨b, off + i * 9 + 5, none⟩ = some (.int .u64 xs[i].call_B) ∧ w.cell? ⟨b, off + i * 9 + 6, none⟩ = some (.int .u64 xs[i].call_C)
      ∧ w.cell? ⟨b, off + i * 9 + 7, none⟩ = some (.int .i64 xs[i].dev) ∧ w.cell? ⟨b, off + i * 9 + 8, none⟩ = some (.int .i64 xs[i].mask) := by
  obtain ⟨b, off, e, hlt, hc⟩ := h i hi
  exact ⟨b, off, e, hlt, hc 0 _ rfl, hc 1 _ rfl, hc 2 _ rfl, hc 3 _ rfl, hc 4 _ rfl, hc 5 _ rfl, hc 6 _ rfl, hc 7 _ rfl, hc 8 _ rfl⟩

def seesB (who : Int) (e : En) : Bool := (e.kind == 0) || (e.who == who)
theorem sees_c (w : World) (e : En) (who : Int) : Calls Try.prog 25 #[e.val, .int .i64 who] w fun r w' => r = .returned (.bool (seesB who e)) ∧ Below w.heap.size w w' := by
  unfold En.val
  have hb := Below.alloc (Below.refl w.heap.size w) (Nat.le_refl _) (.cells #[.int .i64 e.kind, .int .i64 e.who, .int .i64 e.n, .int .i64 e.call_Op, .int .u64 e.call_A, .int .u64 e.call_B, .int .u64 e.call_C, .int .i64 e.dev, .int .i64 e.mask] 47)
  have HB := Lib.hid hb
  clear hb
  by_cases h0 : e.kind = 0
  · have hv : seesB who e = true := by simp [seesB, h0]
    have e1 : (e.kind == 0) = true := by simp [h0]
    rw [hv]
    have h0' := Lib.hid h0
    clear h0 hv
    go_enter Try.func25, Try.ntmps25
    go_wp2
    go_ret
    exact ⟨rfl, HB.out⟩
  · have e1 : (e.kind == 0) = false := by simp [h0]
    have hv : seesB who e = (e.who == who) := by simp [seesB, h0]
    rw [hv]
    clear h0 hv
    go_enter Try.func25, Try.ntmps25
    go_wp2
    go_ret
    exact ⟨rfl, HB.out⟩

def tick1 (e : En) : Int := if e.kind = 0 ∧ 1 ≤ e.n ∧ e.n ≤ 100 then e.n else 0
def ticksV (l : List En) : Int := (l.map tick1).sum
theorem tick1_bd (e : En) : 0 ≤ tick1 e ∧ tick1 e ≤ 100 := by unfold tick1; split <;> omega
theorem ticksV_nil : ticksV [] = 0 := rfl
theorem ticksV_cons (e : En) (t : List En) : ticksV (e :: t) = tick1 e + ticksV t := by simp [ticksV]
theorem ticksV_append (s t : List En) : ticksV (s ++ t) = ticksV s + ticksV t := by
  induction s with
  | nil => simp [ticksV]
  | cons x s ih => rw [List.cons_append, ticksV_cons, ticksV_cons, ih]; omega
theorem ticksV_bd (l : List En) : 0 ≤ ticksV l ∧ ticksV l ≤ 100 * l.length := by
  induction l with
  | nil => simp [ticksV]
  | cons x s ih => rw [ticksV_cons, List.length_cons]; have := tick1_bd x; omega
theorem take_snoc {α : Type} {l : List α} {i : Nat} (h : i < l.length) : l.take (i + 1) = l.take i ++ [l[i]] := by
  rw [List.take_add_one]; simp [h]
theorem tick_step {xs : List En} {i : Nat} (h : i < xs.length) (hl : xs.length ≤ 100000) : ticksV (xs.take (i + 1)) = ticksV (xs.take i) + tick1 xs[i] ∧ 0 ≤ ticksV (xs.take i) ∧ ticksV (xs.take i) ≤ 10000000 := by
  have hb := ticksV_bd (xs.take i)
  rw [List.length_take] at hb
  rw [take_snoc h, ticksV_append, ticksV_cons, ticksV_nil]
  omega
theorem tick_yes {xs : List En} {i : Nat} (h : i < xs.length) (hl : xs.length ≤ 100000) (h0 : xs[i].kind = 0) (h1 : 1 ≤ xs[i].n) (h2 : xs[i].n ≤ 100) : wrap64 (ticksV (xs.take i) + xs[i].n) = ticksV (xs.take (i + 1)) := by
  obtain ⟨e, hb⟩ := tick_step h hl
  rw [e]
  unfold tick1; rw [if_pos ⟨h0, h1, h2⟩]
  unfold wrap64; omega
theorem tick_no {xs : List En} {i : Nat} (h : i < xs.length) (hl : xs.length ≤ 100000) (h0 : ¬ (xs[i].kind = 0 ∧ 1 ≤ xs[i].n ∧ xs[i].n ≤ 100)) : ticksV (xs.take i) = ticksV (xs.take (i + 1)) := by
  obtain ⟨e, hb⟩ := tick_step h hl
  rw [e]
  unfold tick1; rw [if_neg h0]; omega

set_option maxHeartbeats 1000000 in
theorem ticks_c {w : World} {A : Option Addr} {c : Nat} {xs : List En} (hr : RowAt En.cells 9 w A xs) (hl : xs.length ≤ 100000) :
    Calls Try.prog 29 #[.slice A xs.length c] w fun r w' => r = .returned (.int .i64 (ticksV xs)) ∧ Below w.heap.size w w' := by
  have HR := Lib.hid hr
  clear hr
  go_enter Try.func29, Try.ntmps29
  go_wp2_with fail
  go_loopw [3, 8] (fun v ii wr => ∃ i : Nat, ii = .int .i64 i ∧ v = .int .i64 (ticksV (xs.take i)) ∧ Hid (i ≤ xs.length) ∧ Hid (Below w.heap.size w wr)) (fun v ii _ => xs.length - (intOf ii).toNat)
  case atStart => exact ⟨0, rfl, rfl, Lib.hid (Nat.zero_le _), Lib.hid (Below.refl _ _)⟩
  case round =>
    obtain ⟨i, rfl, rfl, hi, hB⟩ := hrel
    by_cases hlt : i < xs.length
    · obtain ⟨b, off, rfl, hbl, c0, c1, c2, c3, c4, c5, c6, c7, c8⟩ := HR.out.en hlt
      rw [← hB.out.cell (p := ⟨b, _, none⟩) hbl] at c0 c1 c2 c3 c4 c5 c6 c7 c8
      go_wp2_with fail
      all_goals refine ⟨⟨i + 1, by go_num, ?_, Lib.hid (by omega), Lib.hid (Below.alloc hB.out hB.out.size _)⟩, by simp [intOf]; omega⟩
      all_goals congr 1
      all_goals first
        | exact tick_yes hlt hl (by assumption) (by assumption) (by assumption)
        | exact tick_no hlt hl (fun h => by omega)
    · have he : xs.take i = xs := List.take_of_length_le (by omega)
      go_wp2
      go_ret
      exact ⟨by rw [he]; rfl, hB.out⟩

set_option maxHeartbeats 1000000 in
theorem ticks18_c {w : World} {A : Option Addr} {c : Nat} {xs : List En} (hr : RowAt En.cells 9 w A xs) (hl : xs.length ≤ 100000) :
    Calls Try.prog 30 #[.slice A xs.length c] w fun r w' => r = .returned (.int .i64 (ticksV xs)) ∧ Below w.heap.size w w' := by
  have HR := Lib.hid hr
  clear hr
  go_enter Try.func30, Try.ntmps30
  go_wp2_with fail
  go_loopw [3, 4] (fun v ii wr => ∃ i : Nat, ii = .int .i64 i ∧ v = .int .i64 (ticksV (xs.take i)) ∧ Hid (i ≤ xs.length) ∧ Hid (Below w.heap.size w wr)) (fun v ii _ => xs.length - (intOf ii).toNat)
  case atStart => exact ⟨0, rfl, rfl, Lib.hid (Nat.zero_le _), Lib.hid (Below.refl _ _)⟩
  case round =>
    obtain ⟨i, rfl, rfl, hi, hB⟩ := hrel
    by_cases hlt : i < xs.length
    · obtain ⟨b, off, rfl, hbl, c0, c1, c2, c3, c4, c5, c6, c7, c8⟩ := HR.out.en hlt
      rw [← hB.out.cell (p := ⟨b, _, none⟩) hbl] at c0 c1 c2 c3 c4 c5 c6 c7 c8
      go_wp2_with fail
      all_goals refine ⟨⟨i + 1, by go_num, ?_, Lib.hid (by omega), hB⟩, by simp [intOf]; omega⟩
      all_goals congr 1
      all_goals first
        | exact tick_yes hlt hl (by assumption) (by assumption) (by assumption)
        | exact tick_no hlt hl (fun h => by omega)
    · have he : xs.take i = xs := List.take_of_length_le (by omega)
      go_wp2
      go_ret
      exact ⟨by rw [he]; rfl, hB.out⟩

set_option maxHeartbeats 2000000 in
theorem project_c {w : World} {A : Option Addr} {c : Nat} {xs : List En} (hr : RowAt En.cells 9 w A xs) (hl : xs.length ≤ 100000) (who : Int) :
    Calls Try.prog 23 #[.slice A xs.length c, .int .i64 who] w fun r w' => ∃ v, r = .returned v ∧ OwnE enE w' w.heap.size v (xs.filter (seesB who)) ∧ Below w.heap.size w w' := by
  have HR := Lib.hid hr
  clear hr
  go_enter Try.func23, Try.ntmps23
  go_wp2_with fail
  go_loopw [5, 10] (fun v ii wr => ∃ i : Nat, ii = .int .i64 i ∧ Hid (OwnE enE wr w.heap.size v ((xs.take i).filter (seesB who))) ∧ Hid (i ≤ xs.length) ∧ Hid (Below w.heap.size w wr)) (fun v ii _ => xs.length - (intOf ii).toNat)
  case atStart => exact ⟨0, rfl, Lib.hid (OwnE.nil _ _), Lib.hid (Nat.zero_le _), Lib.hid (Below.refl _ _)⟩
  case round =>
    obtain ⟨i, rfl, hO, hi, hB⟩ := hrel
    by_cases hlt : i < xs.length
    · obtain ⟨b, off, rfl, hbl, c0, c1, c2, c3, c4, c5, c6, c7, c8⟩ := HR.out.en hlt
      rw [← hB.out.cell (p := ⟨b, _, none⟩) hbl] at c0 c1 c2 c3 c4 c5 c6 c7 c8
      have hf : (xs.take (i + 1)).filter (seesB who) = (xs.take i).filter (seesB who) ++ [xs[i]].filter (seesB who) := by rw [take_snoc hlt, List.filter_append]
      have hfl := List.length_filter_le (seesB who) (xs.take i)
      rw [List.length_take] at hfl
      replace hfl : ((xs.take i).filter (seesB who)).length ≤ 10000000 := by omega
      obtain ⟨e, he⟩ : ∃ e, e = xs[i] := ⟨_, rfl⟩
      rw [← he] at c0 c1 c2 c3 c4 c5 c6 c7 c8 hf
      replace hf := Lib.hid hf; replace he := Lib.hid he; replace hfl := Lib.hid hfl
      by_cases hs : seesB who e = true
      · rw [List.filter_cons_of_pos (p := seesB who) (by simpa using hs), List.filter_nil] at hf
        by_cases h0 : e.kind = 0
        · have e1 : (e.kind == 0) = true := beq_iff_eq.mpr h0
          have e2 : (e.kind != 0) = false := by simp [h0]
          replace h0 := Lib.hid h0; replace hs := Lib.hid hs
          go_wp2_with (first | (at_builtin; refine append_rowE (E := enE) (ys := [e]) rfl rfl Try.underlying41 rfl ((hO.out.alloc _).alloc _) rfl (rowAt_new1 _ _ _ e (by simp) rfl) rfl hfl.out (by simp) (by have := hB.out.size; simp; omega) ?_))
          intro v' w' G1 G2 _ _
          have G3 := Lib.hid (hB.out.trans (((Below.alloc (Below.alloc (Below.refl w.heap.size wr) hB.out.size _) (by have := hB.out.size; simp; omega) _)).trans G2))
          rw [← hf.out] at G1
          replace G1 := Lib.hid G1
          clear G2 hO hB
          go_wp2
          exact ⟨⟨i + 1, by go_num, G1, Lib.hid (by omega), G3⟩, by simp [intOf]; omega⟩
        · have h1 : e.who = who := by simpa [seesB, h0] using hs
          have e1 : (e.kind == 0) = false := beq_eq_false_iff_ne.mpr h0
          have e2 : (e.who == who) = true := beq_iff_eq.mpr h1
          have e3 : (e.kind != 0) = true := bne_iff_ne.mpr h0
          have e4 : (e.who != who) = false := by simp [h1]
          replace h0 := Lib.hid h0; replace hs := Lib.hid hs; replace h1 := Lib.hid h1
          go_wp2_with (first | (at_builtin; refine append_rowE (E := enE) (ys := [e]) rfl rfl Try.underlying41 rfl ((hO.out.alloc _).alloc _) rfl (rowAt_new1 _ _ _ e (by simp) rfl) rfl hfl.out (by simp) (by have := hB.out.size; simp; omega) ?_))
          intro v' w' G1 G2 _ _
          have G3 := Lib.hid (hB.out.trans (((Below.alloc (Below.alloc (Below.refl w.heap.size wr) hB.out.size _) (by have := hB.out.size; simp; omega) _)).trans G2))
          rw [← hf.out] at G1
          replace G1 := Lib.hid G1
          clear G2 hO hB
          go_wp2
          exact ⟨⟨i + 1, by go_num, G1, Lib.hid (by omega), G3⟩, by simp [intOf]; omega⟩
      · rw [List.filter_cons_of_neg (p := seesB who) (by simpa using hs), List.filter_nil, List.append_nil] at hf
        have h0 : e.kind ≠ 0 ∧ e.who ≠ who := by simpa [seesB] using hs
        have e1 : (e.kind == 0) = false := beq_eq_false_iff_ne.mpr h0.1
        have e2 : (e.who == who) = false := beq_eq_false_iff_ne.mpr h0.2
        have e3 : (e.kind != 0) = true := bne_iff_ne.mpr h0.1
        have e4 : (e.who != who) = true := bne_iff_ne.mpr h0.2
        replace h0 := Lib.hid h0; replace hs := Lib.hid hs
        go_wp2
        exact ⟨⟨i + 1, by go_num, by rw [hf.out]; exact hO.out.alloc _, Lib.hid (by omega), Lib.hid (Below.alloc hB.out hB.out.size _)⟩, by simp [intOf]; omega⟩
    · have he : xs.take i = xs := List.take_of_length_le (by omega)
      rw [he] at hO
      clear he
      go_wp2
      go_ret
      exact ⟨_, rfl, hO.out, hB.out⟩

def blindB (who : Int) (e : En) : Bool := !seesB who e
set_option maxHeartbeats 2000000 in
theorem others_c {w : World} {A : Option Addr} {c : Nat} {xs : List En} (hr : RowAt En.cells 9 w A xs) (hl : xs.length ≤ 100000) (who : Int) :
    Calls Try.prog 24 #[.slice A xs.length c, .int .i64 who] w fun r w' => ∃ v, r = .returned v ∧ OwnE enE w' w.heap.size v (xs.filter (blindB who)) ∧ Below w.heap.size w w' := by
  have HR := Lib.hid hr
  clear hr
  go_enter Try.func24, Try.ntmps24
  go_wp2_with fail
  go_loopw [5, 10] (fun v ii wr => ∃ i : Nat, ii = .int .i64 i ∧ Hid (OwnE enE wr w.heap.size v ((xs.take i).filter (blindB who))) ∧ Hid (i ≤ xs.length) ∧ Hid (Below w.heap.size w wr)) (fun v ii _ => xs.length - (intOf ii).toNat)
  case atStart => exact ⟨0, rfl, Lib.hid (OwnE.nil _ _), Lib.hid (Nat.zero_le _), Lib.hid (Below.refl _ _)⟩
  case round =>
    obtain ⟨i, rfl, hO, hi, hB⟩ := hrel
    by_cases hlt : i < xs.length
    · obtain ⟨b, off, rfl, hbl, c0, c1, c2, c3, c4, c5, c6, c7, c8⟩ := HR.out.en hlt
      rw [← hB.out.cell (p := ⟨b, _, none⟩) hbl] at c0 c1 c2 c3 c4 c5 c6 c7 c8
      have hf : (xs.take (i + 1)).filter (blindB who) = (xs.take i).filter (blindB who) ++ [xs[i]].filter (blindB who) := by rw [take_snoc hlt, List.filter_append]
      have hfl := List.length_filter_le (blindB who) (xs.take i)
      rw [List.length_take] at hfl
      replace hfl : ((xs.take i).filter (blindB who)).length ≤ 10000000 := by omega
      obtain ⟨e, he⟩ : ∃ e, e = xs[i] := ⟨_, rfl⟩
      rw [← he] at c0 c1 c2 c3 c4 c5 c6 c7 c8 hf
      replace hf := Lib.hid hf; replace he := Lib.hid he; replace hfl := Lib.hid hfl
      by_cases hs : blindB who e = true
      · rw [List.filter_cons_of_pos (p := blindB who) (by simpa using hs), List.filter_nil] at hf
        have h0 : e.kind ≠ 0 ∧ e.who ≠ who := by simpa [blindB, seesB] using hs
        have e1 : (e.kind == 0) = false := beq_eq_false_iff_ne.mpr h0.1
        have e2 : (e.who == who) = false := beq_eq_false_iff_ne.mpr h0.2
        have e3 : (e.kind != 0) = true := bne_iff_ne.mpr h0.1
        have e4 : (e.who != who) = true := bne_iff_ne.mpr h0.2
        replace h0 := Lib.hid h0; replace hs := Lib.hid hs
        go_wp2_with (first | (at_builtin; refine append_rowE (E := enE) (ys := [e]) rfl rfl Try.underlying41 rfl ((hO.out.alloc _).alloc _) rfl (rowAt_new1 _ _ _ e (by simp) rfl) rfl hfl.out (by simp) (by have := hB.out.size; simp; omega) ?_))
        intro v' w' G1 G2 _ _
        have G3 := Lib.hid (hB.out.trans (((Below.alloc (Below.alloc (Below.refl w.heap.size wr) hB.out.size _) (by have := hB.out.size; simp; omega) _)).trans G2))
        rw [← hf.out] at G1
        replace G1 := Lib.hid G1
        clear G2 hO hB
        go_wp2
        exact ⟨⟨i + 1, by go_num, G1, Lib.hid (by omega), G3⟩, by simp [intOf]; omega⟩
      · rw [List.filter_cons_of_neg (p := blindB who) (by simpa using hs), List.filter_nil, List.append_nil] at hf
        by_cases h0 : e.kind = 0
        · have e1 : (e.kind == 0) = true := beq_iff_eq.mpr h0
          have e2 : (e.kind != 0) = false := by simp [h0]
          replace h0 := Lib.hid h0; replace hs := Lib.hid hs
          go_wp2
          exact ⟨⟨i + 1, by go_num, by rw [hf.out]; exact hO.out.alloc _, Lib.hid (by omega), Lib.hid (Below.alloc hB.out hB.out.size _)⟩, by simp [intOf]; omega⟩
        · have h1 : e.who = who := by simpa [blindB, seesB, h0] using hs
          have e1 : (e.kind == 0) = false := beq_eq_false_iff_ne.mpr h0
          have e2 : (e.who == who) = true := beq_iff_eq.mpr h1
          have e3 : (e.kind != 0) = true := bne_iff_ne.mpr h0
          have e4 : (e.who != who) = false := by simp [h1]
          replace h0 := Lib.hid h0; replace hs := Lib.hid hs; replace h1 := Lib.hid h1
          go_wp2
          exact ⟨⟨i + 1, by go_num, by rw [hf.out]; exact hO.out.alloc _, Lib.hid (by omega), Lib.hid (Below.alloc hB.out hB.out.size _)⟩, by simp [intOf]; omega⟩
    · have he : xs.take i = xs := List.take_of_length_le (by omega)
      rw [he] at hO
      clear he
      go_wp2
      go_ret
      exact ⟨_, rfl, hO.out, hB.out⟩

end Go.Proofs.Ytamnibfaoikdbaa
