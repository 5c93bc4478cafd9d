/- The answer's functions for boxes. No condition. -/
import Derived.Test.YtkpiphihmmhhpaaBsi
import Derived.BigQuiet
import Derived.Deep.QuietTactic
import Derived.Deep.LoopGhost
namespace Go.Proofs.Ytkpiphihmmhhpaa
open Go.RowKit
set_option linter.unusedVariables false
set_option linter.unusedSimpArgs false
set_option maxRecDepth 100000

/-- A row of numbers that nobody writes: in a block from E on, or nowhere. -/
def RowS (w : World) (E : Nat) (v : Value) (X : List Int) : Prop := ∃ A c, v = .slice A X.length c ∧ X.length ≤ c ∧ RowAt (fun z : Int => [.int .i64 z]) 1 w A X ∧ ∀ a, A = some a → E ≤ a.block
theorem RowS.of_own {w : World} {E : Nat} {v : Value} {X : List Int} (h : OwnI w E v X) : RowS w E v X := by
  obtain ⟨A, c, e, h1, h2, h3⟩ := h.form
  exact ⟨A, c, e, h2, h1, fun a ha => (h3 a ha).1⟩
theorem RowS.frb {S : Nat → Prop} {w w' : World} {E : Nat} {v : Value} {X : List Int} (h : RowS w E v X) (F : FrB S w w') (hs : ∀ k, E ≤ k → ¬ S k) : RowS w' E v X := by
  obtain ⟨A, c, rfl, h1, h2, h3⟩ := h
  refine ⟨A, c, rfl, h1, fun i hi => ?_, h3⟩
  obtain ⟨b, off, rfl, hb, hc⟩ := h2 i hi
  refine ⟨b, off, rfl, Nat.lt_of_lt_of_le hb F.size, fun j v hj => ?_⟩
  have e := F.block b hb (hs b (h3 _ rfl))
  have := hc j v hj
  simp only [World.cell?] at this ⊢
  rw [e]; exact this
theorem RowS.below {w w' : World} {E : Nat} {v : Value} {X : List Int} (h : RowS w E v X) (F : Below w.heap.size w w') : RowS w' E v X :=
  h.frb (FrB.of_below (S := fun _ => False) F (Nat.le_refl _)) (fun _ _ h => h)
theorem RowS.mono {w : World} {E E' : Nat} {v : Value} {X : List Int} (h : RowS w E v X) (hE : E' ≤ E) : RowS w E' v X := by
  obtain ⟨A, c, e, h1, h2, h3⟩ := h
  exact ⟨A, c, e, h1, h2, fun a ha => Nat.le_trans hE (h3 a ha)⟩

set_option maxHeartbeats 4000000 in
theorem rroom_c (w : World) (a : Int) : Calls Try.prog 37 #[.int .i64 a] w fun e w' => e = .returned (.int .i64 (capN a)) ∧ w = w' := by
  by_cases h1 : a < 0
  · have e1 : (capN a : Int) = 0 := by unfold capN; omega
    rw [e1]
    go_enter Try.func37, Try.ntmps37
    go_wp2
    go_ret
    exact ⟨rfl, rfl⟩
  by_cases h2 : 4096 < a
  · have e1 : (capN a : Int) = 4096 := by unfold capN; omega
    rw [e1]
    go_enter Try.func37, Try.ntmps37
    go_wp2
    go_ret
    exact ⟨rfl, rfl⟩
  have e1 : (capN a : Int) = a := by unfold capN; omega
  rw [e1]
  clear e1
  go_enter Try.func37, Try.ntmps37
  go_wp2
  go_ret
  exact ⟨rfl, rfl⟩

set_option maxHeartbeats 4000000 in
theorem rpost_c {w : World} {E : Nat} {v : Value} {X : List Int} (h : RowS w E v X) (hE : E ≤ w.heap.size) (hl : X.length ≤ 4096) (n : Nat) (y : Int) :
    Calls Try.prog 46 #[v, .int .i64 n, .int .i64 y] w fun e w' => ∃ v', e = .returned (.tuple #[v', .bool (decide (X.length < n))]) ∧ RowS w' E v' (if X.length < n then X ++ [y] else X) ∧ Below w.heap.size w w' := by
  obtain ⟨A, c, rfl, h1, h2, h3⟩ := h
  have hEH := Lib.hid hE; have hlH := Lib.hid hl
  by_cases hf : X.length < n
  · have d1 : decide ((n : Int) ≤ (X.length : Int)) = false := by simp; omega
    have d2 : decide (n ≤ X.length) = false := by simp; omega
    rw [if_pos hf, decide_eq_true hf]
    replace hf := Lib.hid hf
    have O1 := Lib.hid (OwnI.lit w w.heap.size (Nat.le_refl _) [] #[] rfl (by simp))
    have R1 := Lib.hid (h2.below ((Below.refl w.heap.size w).alloc (Nat.le_refl _) (.cells #[] 3)))
    have B1 := Lib.hid ((Below.refl w.heap.size w).alloc (Nat.le_refl _) (.cells #[] 3))
    clear h1 h2 h3 hE
    go_enter Try.func46, Try.ntmps46
    go_wp2_with (first | (at_builtin; refine append_row (xs := []) rfl rfl Try.underlying37 rfl O1.out rfl R1.out rfl (by simp) (by have := hlH.out; omega) B1.out.size ?_) | fail)
    intro v2 w2 P1 P2 P3 P4
    have B2 := Lib.hid (B1.out.trans P2)
    have O2 := Lib.hid (show OwnI w2 w.heap.size v2 X from P1)
    obtain ⟨A2, c2, rfl⟩ := O2.out.slice
    clear P1 P2 P3 P4 O1 R1 B1
    go_wp2_with (first | (at_builtin; refine append_int rfl rfl Try.underlying37 rfl (O2.out.alloc _) rfl (cell_new1 _ _ _) (by have := hlH.out; omega) (by have := B2.out.size; simp; omega) ?_) | fail)
    intro v3 w3 P1 P2 P3 P4
    have B3 := Lib.hid ((B2.out.alloc B2.out.size (.cells #[.int .i64 y] 3)).trans P2)
    replace P1 := Lib.hid P1
    clear P2 P3 P4 O2
    go_wp2
    refine bodyPost_ret (v := .tuple #[v3, .bool true]) (by simp [results, Try.results46, go_sem, *]) rfl ?_
    exact ⟨_, rfl, (RowS.of_own P1.out).mono hEH.out, B3.out⟩
  · have d1 : decide ((n : Int) ≤ (X.length : Int)) = true := by simp; omega
    have d2 : decide (n ≤ X.length) = true := by simp; omega
    rw [if_neg hf, decide_eq_false hf]
    replace hf := Lib.hid hf
    have H : Hid (RowS w E (.slice A X.length c) X) := Lib.hid ⟨A, c, rfl, h1, h2, h3⟩
    clear h1 h2 h3 hE
    go_enter Try.func46, Try.ntmps46
    go_wp2
    refine bodyPost_ret (v := .tuple #[.slice A X.length c, .bool false]) (by simp [results, Try.results46, go_sem, *]) rfl ?_
    exact ⟨_, rfl, H.out, Below.refl _ _⟩

set_option maxHeartbeats 4000000 in
theorem rfetch_c {w : World} {E : Nat} {v : Value} {X : List Int} (h : RowS w E v X) (hl : X.length ≤ 4096) :
    Calls Try.prog 47 #[v] w fun e w' => ∃ v', e = .returned (.tuple #[v', .int .i64 (X.headD 0), .bool (decide (X ≠ []))]) ∧ RowS w' E v' X.tail ∧ Below w.heap.size w w' := by
  obtain ⟨A, c, rfl, h1, h2, h3⟩ := h
  cases X with
  | nil =>
    have H : Hid (RowS w E (.slice A 0 c) []) := Lib.hid ⟨A, c, rfl, h1, h2, h3⟩
    clear h1 h2 h3
    rw [List.length_nil]
    go_enter Try.func47, Try.ntmps47
    go_wp2
    refine bodyPost_ret (v := .tuple #[.slice A 0 c, .int .i64 0, .bool false]) (by simp [results, Try.results47, go_sem, *]) rfl ?_
    exact ⟨_, rfl, H.out, Below.refl _ _⟩
  | cons x T =>
    obtain ⟨b, off, rfl, hb, hc⟩ := h2 0 (by simp)
    have hz := hc 0 _ rfl
    simp only [List.getElem_cons_zero, Nat.zero_mul, Nat.add_zero] at hz
    have hR : RowAt (fun z : Int => [.int .i64 z]) 1 w (some ⟨b, off + 1, none⟩) T := fun i hi => by
      obtain ⟨b', off', e, hb', hc'⟩ := h2 (i + 1) (by simp; omega)
      injection e with e; injection e with e1 e2; subst e1; subst e2
      refine ⟨_, _, rfl, hb', fun j v hj => ?_⟩
      have := hc' j v (by simpa using hj)
      rw [show off + 1 + i * 1 + j = off + (i + 1) * 1 + j by omega]; exact this
    rw [List.length_cons] at h1 hl ⊢
    have hne : ¬ T.length + 1 = 0 := by omega
    have hc1 : T.length + 1 ≤ c := h1
    obtain ⟨Q, hQ⟩ : ∃ Q, (if c = 1 then (some ⟨b, off, none⟩ : Option Addr) else some ⟨b, off + 1, none⟩) = Q := ⟨_, rfl⟩
    have H : Hid (∀ w2, Below w.heap.size w w2 → RowS w2 E (.slice Q T.length (c - 1)) T) := Lib.hid (fun w2 F => by
      refine RowS.below (w := w) ?_ F
      refine ⟨Q, _, rfl, by omega, ?_, fun a ha => ?_⟩
      · rw [← hQ]
        by_cases hc2 : c = 1
        · have : T = [] := List.eq_nil_of_length_eq_zero (by omega)
          subst this; exact fun i hi => absurd hi (by simp)
        · rw [if_neg hc2]; exact hR
      · rw [← hQ] at ha
        split at ha <;> (injection ha with ha; subst ha; exact h3 ⟨b, off, none⟩ rfl))
    have hk : ∀ w2 : World, Below w.heap.size w w2 → w2.cell? ⟨b, off, none⟩ = some (.int .i64 x) := fun w2 F => (F.cell (p := ⟨b, off, none⟩) hb).trans hz
    clear h2 h3 hc hR
    go_enter Try.func47, Try.ntmps47
    go_wp2_with fail
    go_quiet (fail)
    go_wp2
    refine bodyPost_ret (v := .tuple #[.slice Q T.length (c - 1), .int .i64 x, .bool true]) (by simp [results, Try.results47, go_sem, *]) rfl ?_
    exact ⟨_, rfl, H.out _ (by first | exact Below.refl _ _ | exact (Below.refl _ _).drewN _), by first | exact Below.refl _ _ | exact (Below.refl _ _).drewN _⟩

set_option maxHeartbeats 4000000 in
theorem rsift_c {w : World} {E : Nat} {v : Value} {X : List Int} (h : RowS w E v X) (hE : E ≤ w.heap.size) (hl : X.length ≤ 4096) (y : Int) :
    Calls Try.prog 48 #[v, .int .i64 y] w fun e w' => ∃ v', e = .returned (.tuple #[v', .int .i64 ((X.length - (X.filter (fun x => x != y)).length : Nat) : Int)]) ∧ RowS w' E v' (X.filter (fun x => x != y)) ∧ Below w.heap.size w w' := by
  obtain ⟨A, c, rfl, h1, h2, h3⟩ := h
  have HR := Lib.hid h2
  have hEH := Lib.hid hE
  obtain ⟨p, hp⟩ : ∃ p : Int → Bool, p = fun x => x != y := ⟨_, rfl⟩
  rw [← hp]
  have hpy : Hid (∀ x, (x != y) = p x) := Lib.hid (fun x => by rw [hp])
  have O1 := Lib.hid (OwnI.lit w w.heap.size (Nat.le_refl _) [] #[] rfl (by simp))
  have B1 := Lib.hid ((Below.refl w.heap.size w).alloc (Nat.le_refl _) (.cells #[] 3))
  clear h1 h2 h3 hE hp
  go_enter Try.func48, Try.ntmps48
  go_wp2
  generalize w.alloc (.cells #[] 3) = W at *
  go_loopw [6, 7] (fun v6 ii wr => ∃ i : Nat, ii = .int .i64 i ∧ Hid (OwnI wr w.heap.size v6 ((X.take i).filter p)) ∧ Hid (Below w.heap.size w wr) ∧ Hid (i ≤ X.length)) (fun _ ii _ => X.length - (intOf ii).toNat)
  case atStart => exact ⟨0, rfl, O1, B1, Lib.hid (Nat.zero_le _)⟩
  case round =>
    clear O1 B1
    obtain ⟨i, rfl, O, F, hi⟩ := hrel
    have hi4 : i ≤ 4096 := by have := hi.out; omega
    by_cases hlt : i < X.length
    · obtain ⟨b, off, rfl, hb, hc⟩ := HR.out i hlt
      have hz0 := (F.out.cell (p := ⟨b, off + i * 1 + 0, none⟩) hb).trans (hc 0 _ rfl)
      rw [Nat.add_zero, Nat.mul_one] at hz0
      have htk : X.take (i + 1) = X.take i ++ [X[i]] := List.take_succ_eq_append_getElem hlt
      obtain ⟨x, hx⟩ : ∃ x, x = X[i] := ⟨_, rfl⟩
      rw [← hx] at hz0 htk
      have htk2 : (X.take (i + 1)).filter p = (X.take i).filter p ++ (if p x then [x] else []) := by rw [htk, List.filter_append, filter_one]
      have hlG := List.length_filter_le p (X.take i)
      rw [List.length_take] at hlG
      generalize (X.take i).filter p = G at *
      have hlG2 : Hid (G.length ≤ 100000000) := Lib.hid (by omega)
      have hq := hpy.out x
      replace htk2 := Lib.hid htk2
      have hltH := Lib.hid hlt
      have hbw := Lib.hid (Nat.lt_of_lt_of_le hb F.out.size)
      clear hc hb hx htk hlG
      cases hpx : p x with
      | true =>
        rw [hpx] at hq
        have h3 := htk2.out
        rw [hpx, if_pos rfl] at h3
        replace h3 := Lib.hid h3; replace hpx := Lib.hid hpx
        have hz1 := (((Below.refl wr.heap.size wr).alloc (Nat.le_refl _) (.cells #[.int .i64 x] 3)).cell (p := ⟨b, off + i, none⟩) hbw.out).trans hz0
        go_wp2_with (first | (at_builtin; refine append_int rfl rfl Try.underlying37 rfl (O.out.alloc _) rfl (cell_new1 _ _ _) hlG2.out (by have := F.out.size; simp; omega) ?_) | fail)
        intro v8 w4 P1 P2 P3 P4
        have F2 := Lib.hid ((F.out.alloc F.out.size (.cells #[.int .i64 x] 3)).trans P2)
        have O2 := Lib.hid P1
        clear P1 P2 P3 P4 O F
        go_wp2
        go_roundw
        case rel => exact ⟨i + 1, by go_num, Lib.hid (by rw [h3.out]; exact O2.out), F2, Lib.hid hltH.out⟩
        case measure => have := hltH.out; simp [intOf]; omega
      | false =>
        rw [hpx] at hq
        have h3 := htk2.out
        rw [hpx, if_neg (by decide), List.append_nil] at h3
        replace h3 := Lib.hid h3; replace hpx := Lib.hid hpx
        go_wp2
        go_roundw
        case rel => exact ⟨i + 1, by go_num, Lib.hid (by rw [h3.out]; exact O.out), F, Lib.hid hltH.out⟩
        case measure => have := hltH.out; simp [intOf]; omega
    · obtain rfl : i = X.length := by have := hi.out; omega
      rw [List.take_length] at O
      have hlF := List.length_filter_le p X
      obtain ⟨G, hG⟩ : ∃ G, G = X.filter p := ⟨_, rfl⟩
      rw [← hG] at O hlF
      obtain ⟨A8, c8, rfl⟩ := O.out.slice
      obtain ⟨n, hn⟩ : ∃ n, n = X.length - G.length := ⟨_, rfl⟩
      have e1 : (X.length : Int) - (G.length : Int) = (n : Int) := by omega
      replace hn := Lib.hid hn; replace hlF := Lib.hid hlF; replace hG := Lib.hid hG
      have hge : ¬ ((X.length : Int) < (X.length : Int)) := by omega
      have hl8 : G.length ≤ 4096 := by have := hlF.out; omega
      go_wp2
      refine bodyPost_ret (v := .tuple #[.slice A8 G.length c8, .int .i64 n]) (by simp [results, Try.results48, go_sem, *]) rfl ?_
      rw [← hG.out, ← hn.out]
      exact ⟨_, rfl, (RowS.of_own O.out).mono hEH.out, F.out⟩
end Go.Proofs.Ytkpiphihmmhhpaa
