/- The document's regions: what is done with them. -/
import Derived.Test.YtlkhpkdndmlnaaaDoorOwnE
import Derived.Test.YtlkhpkdndmlnaaaDoorOwnES
import Derived.Test.YtlkhpkdndmlnaaaDoorMake
import Derived.Test.YtlkhpkdndmlnaaaDoorEntF
import Derived.Test.YtlkhpkdndmlnaaaDoorSince
import Derived.Laws.IdiomCopy
namespace Go.Proofs.YtlkhpkdndmlnaaaDoor
open Go.RowKit
set_option linter.unusedVariables false
set_option linter.unusedSimpArgs false
set_option linter.unusedSectionVars false
set_option maxRecDepth 100000

structure Pl where
  is : Bool
  v : Int
deriving Inhabited
def plE : Enc Pl where
  t := 82
  sz := 2
  f := fun x => [.bool x.is, .int .i64 x.v]
  z := .agg #[.bool false, .int .i64 0]
  bytes := 16
  len := fun x => rfl
  one := fun x v h => by
    simp only [List.mem_cons, List.mem_nil_iff, or_false] at h
    rcases h with h | h <;> (subst h; rfl)
  info := by kernel_rfl
  zs := rfl
  pos := by decide
  small := by decide
def Pl.zero : Pl := ⟨false, 0⟩
theorem RowAt.pl {w : World} {A : Option Addr} {P : List Pl} (h : RowAt plE.f 2 w A P) {i : Nat} (hi : i < P.length) : ∃ b off, A = some ⟨b, off, none⟩ ∧ b < w.heap.size ∧ w.cell? ⟨b, off + i * 2, none⟩ = some (.bool P[i].is) ∧ w.cell? ⟨b, off + i * 2 + 1, none⟩ = some (.int .i64 P[i].v) := by
  obtain ⟨b, off, e, hlt, hc⟩ := h i hi
  exact ⟨b, off, e, hlt, hc 0 _ rfl, hc 1 _ rfl⟩
/-- Which places are taken. -/
abbrev isL (P : List Pl) : List Bool := P.map Pl.is

set_option maxHeartbeats 4000000 in
theorem has_r {w : World} {A : Option Addr} {c : Nat} {P : List Pl} (hr : RowAt plE.f 2 w A P) (k : Int) :
    Calls Tryd.prog 40 #[.slice A P.length c, .int .i64 k] w fun e w' => e = .returned (.bool (hasB (isL P) k)) ∧ w = w' := by
  by_cases h0 : k < 0
  · have d0 : decide (0 ≤ k) = false := decide_eq_false (by omega)
    have hh := Lib.hid (hasB_neg (X := isL P) h0)
    clear hr
    go_enter Tryd.func40, Tryd.ntmps40
    go_wp2
    go_ret
    exact ⟨by rw [hh.out]; rfl, rfl⟩
  · obtain ⟨K, rfl⟩ := Int.eq_ofNat_of_zero_le (show 0 ≤ k by omega)
    by_cases hk : K < P.length
    · obtain ⟨b, off, rfl, -, c0, -⟩ := hr.pl hk
      have hh := Lib.hid (show hasB (isL P) (K : Int) = P[K].is by rw [hasB_nat (by simpa using hk)]; simp)
      have d0 : decide (0 ≤ (K : Int)) = true := decide_eq_true (by omega)
      have d1 : decide ((K : Int) < (P.length : Int)) = true := decide_eq_true (by omega)
      have d2 : decide (K < P.length) = true := decide_eq_true hk
      generalize P[K].is = z at *
      clear h0 hr
      go_enter Tryd.func40, Tryd.ntmps40
      go_wp2
      go_ret
      exact ⟨by rw [hh.out]; rfl, rfl⟩
    · have hh := Lib.hid (hasB_out (X := isL P) (K := K) (by simp; omega))
      have d0 : decide (0 ≤ (K : Int)) = true := decide_eq_true (by omega)
      have d1 : decide ((K : Int) < (P.length : Int)) = false := decide_eq_false (by omega)
      have d2 : decide (K < P.length) = false := decide_eq_false hk
      clear h0 hr hk
      go_enter Tryd.func40, Tryd.ntmps40
      go_wp2
      go_ret
      exact ⟨by rw [hh.out]; rfl, rfl⟩

set_option maxHeartbeats 4000000 in
theorem free_r {w : World} {A : Option Addr} {c : Nat} {P : List Pl} (hr : RowAt plE.f 2 w A P) (hm : P.length ≤ 4096) :
    Calls Tryd.prog 41 #[.slice A P.length c] w fun e w' => e = .returned (.tuple #[.int .i64 (nextV (isL P) false 0), .bool (nextO (isL P) false 0)]) ∧ w = w' := by
  have HR := Lib.hid hr
  obtain ⟨n, hn⟩ : ∃ n, n = P.length := ⟨_, rfl⟩
  rw [← hn] at hm ⊢
  replace hn := Lib.hid hn
  clear hr
  go_enter Tryd.func41, Tryd.ntmps41
  go_wp2_with fail
  go_loop [4] (fun ii => ∃ i : Nat, ii = .int .i64 i ∧ Hid (i ≤ n) ∧ Hid (∀ q (h : q < (isL P).length), q < i → (isL P)[q] = true)) (fun ii => n - (intOf ii).toNat)
  case atStart => exact ⟨0, rfl, Lib.hid (Nat.zero_le _), Lib.hid (fun q _ h => by omega)⟩
  case round =>
    obtain ⟨i, rfl, hi, hp⟩ := hrel
    by_cases hlt : i < n
    · have hl : i < P.length := by rw [← hn.out]; exact hlt
      obtain ⟨b, off, rfl, -, c0, -⟩ := HR.out.pl hl
      have hix : (isL P)[i]'(by simpa using hl) = P[i].is := by simp
      have hlH := Lib.hid hlt
      have hi4 : i < 4096 := by omega
      cases hz : P[i].is with
      | false =>
        rw [hz] at c0 hix
        have e1 := nextO_some (X := isL P) (b := false) (k := 0) (nextB_some (by simpa using hl) (Nat.zero_le _) hix (fun q hq _ h => by rw [hp.out q hq h]; decide))
        have E1 := Lib.hid e1
        clear e1 hz hix
        go_wp2
        go_ret2
        exact ⟨by rw [E1.out.1, E1.out.2]; rfl, rfl⟩
      | true =>
        rw [hz] at c0 hix
        have hp2 := Lib.hid (show ∀ q (h : q < (isL P).length), q < i + 1 → (isL P)[q] = true from fun q hq h => by
          by_cases e : q = i
          · subst e; exact hix
          · exact hp.out q hq (by omega))
        clear hz hix
        go_wp2
        go_round
        case rel => exact ⟨i + 1, by go_num, hlH, hp2⟩
        case measure => have := hlH.out; simp [intOf]; omega
    · obtain rfl : n = i := by have := hi.out; omega
      have e1 := nextO_none (X := isL P) (b := false) (k := 0) (nextB_none (fun q hq _ => by rw [hp.out q hq (by rw [hn.out]; simpa using hq)]; decide))
      have E1 := Lib.hid e1
      clear e1
      go_wp2
      go_ret2
      exact ⟨by rw [E1.out.1, E1.out.2]; rfl, rfl⟩

theorem plcs_step (X : List Bool) (i : Nat) : ((List.range (i + 1)).filter (fun j => X.getD j false)).map (fun j : Nat => (j : Int)) = ((List.range i).filter (fun j => X.getD j false)).map (fun j : Nat => (j : Int)) ++ (if X.getD i false then [(i : Int)] else []) := by
  rw [List.range_succ, List.filter_append, List.map_append]
  congr 1
  by_cases h : X.getD i false = true
  · rw [if_pos h]; simp only [List.filter_cons, h, if_true, List.filter_nil, List.map_cons, List.map_nil]
  · rw [if_neg h]; simp only [List.filter_cons, h, List.filter_nil]; rfl

set_option maxHeartbeats 4000000 in
theorem held_r {w : World} {A : Option Addr} {c : Nat} {P : List Pl} (hr : RowAt plE.f 2 w A P) (hm : P.length ≤ 4096) :
    Calls Tryd.prog 44 #[.slice A P.length c] w fun e w' => ∃ v, e = .returned v ∧ OwnI w' w.heap.size v (plcs (isL P)) ∧ Below w.heap.size w w' := by
  have HR := Lib.hid hr
  obtain ⟨n, hn⟩ : ∃ n, n = P.length := ⟨_, rfl⟩
  rw [← hn] at hm ⊢
  replace hn := Lib.hid hn
  have O0 := Lib.hid (OwnI.lit w w.heap.size (Nat.le_refl _) [] #[] rfl (Nat.zero_le _))
  have B0 := Lib.hid (blA (Below.refl w.heap.size w) (.cells #[] 3))
  clear hr
  go_enter Tryd.func44, Tryd.ntmps44
  go_wp2_with fail
  go_loopw [3, 4] (fun vv ii wr => ∃ (i : Nat), ii = .int .i64 i ∧ Hid (i ≤ n) ∧ Hid (OwnI wr w.heap.size vv (((List.range i).filter (fun j => (isL P).getD j false)).map (fun j : Nat => (j : Int)))) ∧ Hid (Below w.heap.size w wr)) (fun _ ii _ => n - (intOf ii).toNat)
  case atStart => exact ⟨0, rfl, Lib.hid (Nat.zero_le _), O0, B0⟩
  case round =>
    clear O0 B0
    obtain ⟨i, rfl, hi, O, B⟩ := hrel
    by_cases hlt : i < n
    · have hl : i < P.length := by rw [← hn.out]; exact hlt
      obtain ⟨b, off, rfl, hbl, c0, -⟩ := HR.out.pl hl
      replace c0 := (B.out.cell (p := ⟨b, off + i * 2, none⟩) hbl).trans c0
      have hg : (isL P).getD i false = P[i].is := by simp [List.getD_eq_getElem?_getD, hl]
      have hlH := Lib.hid hlt
      have hi4 : i < 4096 := by omega
      have hll : (((List.range i).filter (fun j => (isL P).getD j false)).map (fun j : Nat => (j : Int))).length ≤ i := by
        rw [List.length_map]; exact Nat.le_trans (List.length_filter_le _ _) (by simp)
      have hst := plcs_step (isL P) i
      cases hz : P[i].is with
      | false =>
        rw [hz] at c0 hg
        rw [hg] at hst
        simp only [Bool.false_eq_true, if_false, List.append_nil] at hst
        rw [← hst] at O
        clear hz hg hst hbl
        go_wp2
        go_roundw
        case rel => exact ⟨i + 1, by go_num, hlH, O, B⟩
        case measure => have := hlH.out; simp [intOf]; omega
      | true =>
        rw [hz] at c0 hg
        rw [hg] at hst
        simp only [if_true] at hst
        obtain ⟨L, hL⟩ : ∃ L, L = ((List.range i).filter (fun j => (isL P).getD j false)).map (fun j : Nat => (j : Int)) := ⟨_, rfl⟩
        rw [← hL] at O hst hll
        replace hst := Lib.hid hst
        obtain ⟨Av, cv, rfl⟩ := O.out.slice
        clear hz hg hbl hL
        go_wp2_with (at_builtin; refine append_int rfl rfl Tryd.underlying22 rfl (O.out.alloc _) rfl (cell_new1 _ _ _) (by omega) (by have := B.out.size; simp; omega) ?_; intro v2 w2 O2 G1 G2 G3)
        have O3 := Lib.hid O2
        rw [← hst.out] at O3
        have B3 := Lib.hid ((B.out.alloc B.out.size (.cells #[.int .i64 (i : Int)] 3)).trans G1)
        clear O2 G1 G2 G3
        go_roundw
        case rel => exact ⟨i + 1, by go_num, hlH, O3, B3⟩
        case measure => have := hlH.out; simp [intOf]; omega
    · obtain rfl : n = i := by have := hi.out; omega
      have hpl : ((List.range n).filter (fun j => (isL P).getD j false)).map (fun j : Nat => (j : Int)) = plcs (isL P) := by
        unfold plcs
        rw [show (isL P).length = n by rw [hn.out]; simp]
      rw [hpl] at O
      clear hpl
      go_wp2
      go_ret
      exact ⟨_, rfl, O.out, B.out⟩

set_option maxHeartbeats 4000000 in
theorem with_r {w : World} {A : Option Addr} {c : Nat} {P : List Pl} (hr : RowAt plE.f 2 w A P) (hm : P.length ≤ 4096) {k : Nat} (hk : k < P.length) (x : Pl) :
    Calls Tryd.prog 42 #[.slice A P.length c, .int .i64 k, .agg #[.bool x.is, .int .i64 x.v]] w fun e w' => ∃ v, e = .returned v ∧ OwnE plE w' w.heap.size v (P.set k x) ∧ Below w.heap.size w w' := by
  obtain ⟨xi, xv⟩ := x
  have B0 := blA (Below.refl w.heap.size w) (.cells #[.bool xi, .int .i64 xv] 82)
  have HR := Lib.hid (hr.below B0)
  have z0 := Cel.new w #[.bool xi, .int .i64 xv] 82 0 (.bool xi) rfl
  have z1 := Cel.new w #[.bool xi, .int .i64 xv] 82 1 (.int .i64 xv) rfl
  have hzs : (w.alloc (.cells #[.bool xi, .int .i64 xv] 82)).heap.size = w.heap.size + 1 := by simp
  obtain ⟨n, hn⟩ : ∃ n, n = P.length := ⟨_, rfl⟩
  rw [← hn] at hm hk ⊢
  replace hn := Lib.hid hn
  have BH := Lib.hid B0
  have OL := OwnE.lit (E := plE) (w.alloc (.cells #[.bool xi, .int .i64 xv] 82)) (w.heap.size + 1) (by simp) [] #[] rfl (Nat.zero_le _)
  rw [hzs] at OL
  replace OL := Lib.hid OL
  clear hr B0
  go_enter Tryd.func42, Tryd.ntmps42
  go_wp2_with (at_builtin; refine append_rowE (E := plE) (base := w.heap.size + 1) (xs := []) (ys := P) rfl rfl Tryd.underlying60 rfl OL.out rfl (HR.out.below (blA (Below.refl _ _) _)) hn.out (by simp) (by rw [← hn.out]; omega) (by simp) ?_; intro v4 w4 O4 G1 G2 G3; obtain ⟨g, cg, rfl, hg1, hg2, hg3⟩ := O4.pos (by rw [List.nil_append, ← hn.out]; omega); have hkP : k < P.length := (by rw [← hn.out]; exact hk); obtain ⟨u0, q0⟩ : ∃ u, Cel w4 g (k * 2 + 0) u := ⟨_, O4.cel (i := k) (j := 0) (show k < ([] ++ P).length from hkP) rfl⟩; obtain ⟨u1, q1⟩ : ∃ u, Cel w4 g (k * 2 + 1) u := ⟨_, O4.cel (i := k) (j := 1) (show k < ([] ++ P).length from hkP) rfl⟩; have q0a : w4.cell? ⟨g, k * 2, none⟩ = some u0 := q0.1; have q0b : w4.frozen? ⟨g, k * 2, none⟩ = false := q0.2; have q2 := q1.other (b' := g) (o' := k * 2) (.inr (Nat.ne_of_lt (Nat.lt_succ_self _))) (.bool xi); have q1a : (w4.setCell ⟨g, k * 2, none⟩ (.bool xi)).cell? ⟨g, k * 2 + 1, none⟩ = some u1 := q2.1; have q1b : (w4.setCell ⟨g, k * 2, none⟩ (.bool xi)).frozen? ⟨g, k * 2 + 1, none⟩ = false := q2.2; have t0 := (G1.cell (p := ⟨w.heap.size, 0, none⟩) (by simp)).trans (z0.alloc (.cells #[] 82)).1; have t1 := (G1.cell (p := ⟨w.heap.size, 1, none⟩) (by simp)).trans (z1.alloc (.cells #[] 82)).1)
  have e0 : ([] ++ P) = P := rfl
  rw [e0] at O4
  have O5 := (O4.set (i := k) (j := 0) (u := .bool xi) (y := ⟨xi, P[k].v⟩) hkP (by decide) rfl).set (i := k) (j := 1) (u := .int .i64 xv) (y := ⟨xi, xv⟩) (by rw [List.length_set]; exact hkP) (by decide) (by rw [List.getElem_set_self]; rfl)
  rw [List.set_set] at O5
  have B6 : Below w.heap.size w ((w4.setCell ⟨g, k * 2, none⟩ (.bool xi)).setCell ⟨g, k * 2 + 1, none⟩ (.int .i64 xv)) :=
    ((((BH.out.alloc (by simp) (.cells #[] 82))).trans (G1.mono (by simp))).trans ((Below.refl w.heap.size w4).setCell (p := ⟨g, k * 2, none⟩) (by show w.heap.size ≤ g; omega) _)).trans ((Below.refl w.heap.size _).setCell (p := ⟨g, k * 2 + 1, none⟩) (by show w.heap.size ≤ g; omega) _)
  have O6 := Lib.hid (O5.mono (base' := w.heap.size) (by omega))
  replace B6 := Lib.hid B6
  clear O5 O4 q0 q1 q2 e0 OL BH HR z0 z1
  trace_state
  go_wp2_with fail
  go_ret
  exact ⟨_, rfl, O6.out, B6.out⟩
end Go.Proofs.YtlkhpkdndmlnaaaDoor
