/- Entries compared, and the document's rightness of entries. -/
import Derived.Test.YtamnibfaoikdbaaEn
import Derived.BigQuiet
import Derived.Deep.QuietTactic
import Derived.Deep.RegionWith
namespace Go.Proofs.Ytamnibfaoikdbaa
open Go.RowKit
set_option linter.unusedVariables false
set_option linter.unusedSimpArgs false
set_option maxRecDepth 100000

theorem _root_.Go.RowKit.Below.drewN {B : Nat} {a w : World} (h : Below B a w) (n : Nat) : Below B a (w.drewN n) := ⟨h.os, h.tape, h.output, h.size, h.block⟩

theorem eq_call (w : World) (o o' a a' b b' c c' : Int) :
    (Op.equalIn 9999 45 (.agg #[.int .i64 o, .int .u64 a, .int .u64 b, .int .u64 c]) (.agg #[.int .i64 o', .int .u64 a', .int .u64 b', .int .u64 c'])).run Try.prog w
      = .ok (o == o' && (a == a' && (b == b' && (c == c' && true)))) w := by
  refine eqs_of (d := 9998) Try.underlying45 (by kernel_rfl) ?_
  refine eqs_cons (by rfl) (by go_simp; rfl) (by go_simp; rfl) (by go_simp) ?_
  refine eqs_cons (by rfl) (by go_simp; rfl) (by go_simp; rfl) (by go_simp) ?_
  refine eqs_cons (by rfl) (by go_simp; rfl) (by go_simp; rfl) (by go_simp) ?_
  refine eqs_cons (by rfl) (by go_simp; rfl) (by go_simp; rfl) (by go_simp) ?_
  exact eqs_nil
theorem eq_en0 (w : World) (x y : En) :
    (Op.equalIn 10000 47 (.agg #[.int .i64 x.kind, .int .i64 x.who, .int .i64 x.n, .int .i64 x.call_Op, .int .u64 x.call_A, .int .u64 x.call_B, .int .u64 x.call_C, .int .i64 x.dev, .int .i64 x.mask])
      (.agg #[.int .i64 y.kind, .int .i64 y.who, .int .i64 y.n, .int .i64 y.call_Op, .int .u64 y.call_A, .int .u64 y.call_B, .int .u64 y.call_C, .int .i64 y.dev, .int .i64 y.mask])).run Try.prog w
      = .ok (x.kind == y.kind && (x.who == y.who && (x.n == y.n && ((x.call_Op == y.call_Op && (x.call_A == y.call_A && (x.call_B == y.call_B && (x.call_C == y.call_C && true)))) && (x.dev == y.dev && (x.mask == y.mask && true)))))) w := by
  refine eqs_of (d := 9999) Try.underlying47 (by kernel_rfl) ?_
  refine eqs_cons (by rfl) (by go_simp; rfl) (by go_simp; rfl) (by go_simp) ?_
  refine eqs_cons (by rfl) (by go_simp; rfl) (by go_simp; rfl) (by go_simp) ?_
  refine eqs_cons (by rfl) (by go_simp; rfl) (by go_simp; rfl) (by go_simp) ?_
  refine eqs_cons (by rfl) (by first | (go_simp; done) | (go_simp; rfl)) (by first | (go_simp; done) | (go_simp; rfl)) (eq_call w _ _ _ _ _ _ _ _) ?_
  refine eqs_cons (by rfl) (by go_simp; rfl) (by go_simp; rfl) (by go_simp) ?_
  refine eqs_cons (by rfl) (by go_simp; rfl) (by go_simp; rfl) (by go_simp) ?_
  exact eqs_nil
theorem eq_en (w : World) (x y : En) :
    (Op.equalIn 10000 47 (.agg #[.int .i64 x.kind, .int .i64 x.who, .int .i64 x.n, .int .i64 x.call_Op, .int .u64 x.call_A, .int .u64 x.call_B, .int .u64 x.call_C, .int .i64 x.dev, .int .i64 x.mask])
      (.agg #[.int .i64 y.kind, .int .i64 y.who, .int .i64 y.n, .int .i64 y.call_Op, .int .u64 y.call_A, .int .u64 y.call_B, .int .u64 y.call_C, .int .i64 y.dev, .int .i64 y.mask])).run Try.prog w
      = .ok (decide (x = y)) w := by
  rw [eq_en0]
  congr 1
  cases x; cases y
  rw [Bool.eq_iff_iff]
  simp only [Bool.and_eq_true, beq_iff_eq, decide_eq_true_eq, En.mk.injEq, and_true]
  constructor
  · rintro ⟨a, b, c, ⟨d, e, f, g⟩, h, i⟩; exact ⟨a, b, c, d, e, f, g, h, i⟩
  · rintro ⟨a, b, c, d, e, f, g, h, i⟩; exact ⟨a, b, c, ⟨d, e, f, g⟩, h, i⟩

theorem eq_enT {x y : En} (h : x = y) : ∀ w, (Op.equalIn 10000 47 (.agg #[.int .i64 x.kind, .int .i64 x.who, .int .i64 x.n, .int .i64 x.call_Op, .int .u64 x.call_A, .int .u64 x.call_B, .int .u64 x.call_C, .int .i64 x.dev, .int .i64 x.mask]) (.agg #[.int .i64 y.kind, .int .i64 y.who, .int .i64 y.n, .int .i64 y.call_Op, .int .u64 y.call_A, .int .u64 y.call_B, .int .u64 y.call_C, .int .i64 y.dev, .int .i64 y.mask])).run Try.prog w = .ok true w := fun w => by rw [eq_en, decide_eq_true h]
theorem eq_enF {x y : En} (h : ¬ x = y) : ∀ w, (Op.equalIn 10000 47 (.agg #[.int .i64 x.kind, .int .i64 x.who, .int .i64 x.n, .int .i64 x.call_Op, .int .u64 x.call_A, .int .u64 x.call_B, .int .u64 x.call_C, .int .i64 x.dev, .int .i64 x.mask]) (.agg #[.int .i64 y.kind, .int .i64 y.who, .int .i64 y.n, .int .i64 y.call_Op, .int .u64 y.call_A, .int .u64 y.call_B, .int .u64 y.call_C, .int .i64 y.dev, .int .i64 y.mask])).run Try.prog w = .ok false w := fun w => by rw [eq_en, decide_eq_false h]

set_option maxHeartbeats 2000000 in
theorem same15_c {w : World} {A B : Option Addr} {ca cb : Nat} {xs ys : List En} (hx : RowAt En.cells 9 w A xs) (hy : RowAt En.cells 9 w B ys) (hm : xs.length ≤ 100000) (hm2 : ys.length ≤ 100000) :
    Calls Try.prog 26 #[.slice A xs.length ca, .slice B ys.length cb] w fun e w' => e = .returned (.bool (decide (xs = ys))) ∧ Below w.heap.size w w' := by
  by_cases hl : xs.length = ys.length
  · have Hx := Lib.hid hx; have Hy := Lib.hid hy; have Hl := Lib.hid hl; have Hm := Lib.hid hm
    have e1 : ((xs.length : Int) != (ys.length : Int)) = false := by simp [hl]
    clear hx hy hl hm2
    go_enter Try.func26, Try.ntmps26
    go_wp2
    go_loopw [5] (fun k wr => ∃ n : Nat, k = .int .i64 n ∧ Hid (Below w.heap.size w wr) ∧ Hid (n ≤ xs.length) ∧ Hid (∀ j (h1 : j < xs.length) (h2 : j < ys.length), j < n → xs[j] = ys[j])) (fun k wr => xs.length - (intOf k).toNat)
    case atStart => exact ⟨0, rfl, Lib.hid (Below.refl _ _), Lib.hid (Nat.zero_le _), Lib.hid fun j _ _ h => absurd h (by omega)⟩
    case round =>
      obtain ⟨n, rfl, hB, h1, h2⟩ := hrel
      by_cases hn : n < xs.length
      · have hn2 : n < ys.length := by rw [← Hl.out]; exact hn
        obtain ⟨b, off, rfl, hbl, c0, c1, c2, c3, c4, c5, c6, c7, c8⟩ := Hx.out.en hn
        obtain ⟨b', off', rfl, hbl', d0, d1, d2, d3, d4, d5, d6, d7, d8⟩ := Hy.out.en hn2
        rw [← hB.out.cell (p := ⟨b, _, none⟩) hbl] at c0 c1 c2 c3 c4 c5 c6 c7 c8
        rw [← hB.out.cell (p := ⟨b', _, none⟩) hbl'] at d0 d1 d2 d3 d4 d5 d6 d7 d8
        obtain ⟨x, hxe⟩ : ∃ x, x = xs[n] := ⟨_, rfl⟩
        obtain ⟨y, hye⟩ : ∃ y, y = ys[n] := ⟨_, rfl⟩
        rw [← hxe] at c0 c1 c2 c3 c4 c5 c6 c7 c8
        rw [← hye] at d0 d1 d2 d3 d4 d5 d6 d7 d8
        replace hxe := Lib.hid hxe; replace hye := Lib.hid hye
        by_cases he : x = y
        · have heq := eq_enT he
          replace he := Lib.hid he
          clear hbl hbl'
          go_wp2
          go_quiet (fail)
          go_wp2
          refine ⟨⟨n + 1, by go_num, Lib.hid (hB.out.drewN _), Lib.hid (by omega), Lib.hid fun j hj1 hj2 hj => ?_⟩, by simp [intOf]; omega⟩
          rcases Nat.lt_or_ge j n with h | h
          · exact h2.out j hj1 hj2 h
          · obtain rfl : j = n := by omega
            rw [← hxe.out, ← hye.out]; exact he.out
        · have heq := eq_enF he
          have hd : decide (xs = ys) = false := decide_eq_false (fun e => he (by rw [hxe.out, hye.out]; subst e; rfl))
          have HD := Lib.hid hd
          clear he hd hbl hbl'
          go_wp2
          go_quiet (fail)
          go_wp2
          go_ret
          exact ⟨by rw [HD.out]; rfl, hB.out.drewN _⟩
      · have hd : decide (xs = ys) = true := decide_eq_true (List.ext_getElem Hl.out (fun j hj1 hj2 => h2.out j hj1 hj2 (by omega)))
        have HD := Lib.hid hd
        clear hd
        go_wp2
        go_ret
        exact ⟨by rw [HD.out]; rfl, hB.out⟩
  · have hd : decide (xs = ys) = false := decide_eq_false (fun e => hl (by rw [e]))
    rw [hd]
    have e1 : ((xs.length : Int) != (ys.length : Int)) = true := by rw [bne_iff_ne]; omega
    clear hx hy hl hd
    go_enter Try.func26, Try.ntmps26
    go_wp2
    go_ret
    exact ⟨rfl, Below.refl _ _⟩

def argN (k : Nat) : Int := [1, 0, 2, 1, 3, 1, 1, 3, 1, 1, 2, 1, 0].getD k 0
def argCs : Array Value := #[.int .i64 1, .int .i64 0, .int .i64 2, .int .i64 1, .int .i64 3, .int .i64 1, .int .i64 1, .int .i64 3, .int .i64 1, .int .i64 1, .int .i64 2, .int .i64 1, .int .i64 0]
theorem argCs_at (k : Nat) (h : k < 13) : argCs[k]? = some (.int .i64 (argN k)) := by
  rcases k with _ | _ | _ | _ | _ | _ | _ | _ | _ | _ | _ | _ | _ | k <;> first | rfl | omega
theorem args_c (w : World) : Calls Try.prog 38 #[] w fun e w' => e = .returned (.slice (some ⟨w.heap.size, 0, none⟩) 13 13) ∧ w' = w.alloc (.cells argCs 3) := by
  go_enter Try.func38, Try.ntmps38
  go_wp2
  go_ret
  exact ⟨rfl, rfl⟩

def rightC (op a b c : Int) : Bool := decide (0 ≤ op) && decide (op < 13) && (decide (1 ≤ argN op.toNat) || a == 0) && (decide (2 ≤ argN op.toNat) || b == 0) && (decide (3 ≤ argN op.toNat) || c == 0)
set_option maxHeartbeats 2000000 in
theorem right14_c (w : World) (op a b c : Int) : Calls Try.prog 37 #[.agg #[.int .i64 op, .int .u64 a, .int .u64 b, .int .u64 c]] w fun e w' => e = .returned (.bool (rightC op a b c)) ∧ Below w.heap.size w w' := by
  by_cases h0 : 0 ≤ op ∧ op < 13
  · obtain ⟨h0, h1⟩ := h0
    obtain ⟨k, rfl⟩ := Int.eq_ofNat_of_zero_le h0
    have hk : k < 13 := by omega
    have hv : rightC k a b c = ((decide (1 ≤ argN k) || a == 0) && (decide (2 ≤ argN k) || b == 0) && (decide (3 ≤ argN k) || c == 0)) := by
      have h2 : decide ((0 : Int) ≤ (k : Int)) = true := by simp
      have h3 : decide ((k : Int) < 13) = true := by simp; omega
      unfold rightC
      rw [h2, h3, Int.toNat_natCast]; rfl
    rw [hv]
    clear hv h0 h1
    have HB := Lib.hid (Below.alloc (Below.refl w.heap.size w) (Nat.le_refl _) (.cells #[.int .i64 k, .int .u64 a, .int .u64 b, .int .u64 c] 45))
    have HS := Lib.hid (show w.heap.size < (w.alloc (.cells #[.int .i64 k, .int .u64 a, .int .u64 b, .int .u64 c] 45)).heap.size by simp)
    have y0 := Cel.new w #[.int .i64 k, .int .u64 a, .int .u64 b, .int .u64 c] 45 0 _ rfl
    have y1 := Cel.new w #[.int .i64 k, .int .u64 a, .int .u64 b, .int .u64 c] 45 1 _ rfl
    have y2 := Cel.new w #[.int .i64 k, .int .u64 a, .int .u64 b, .int .u64 c] 45 2 _ rfl
    have y3 := Cel.new w #[.int .i64 k, .int .u64 a, .int .u64 b, .int .u64 c] 45 3 _ rfl
    have t1 : decide ((k : Int) < 0) = false := by simp
    have t2 : decide (13 ≤ (k : Int)) = false := by simp; omega
    go_enter Try.func37, Try.ntmps37
    go_wp2_with fail
    generalize w.alloc (.cells #[.int .i64 k, .int .u64 a, .int .u64 b, .int .u64 c] 45) = W at *
    generalize hSw : w.heap.size = S at *
    replace hSw := Lib.hid hSw
    have z0 : W.cell? ⟨S, 0, none⟩ = some (.int .i64 k) := y0.1
    have hs := HS.out
    have i0 : (0 : Int) ≤ (k : Int) := by omega
    have i1 : (k : Int) < 13 := by omega
    go_region_with (first | (go_at_call 38; refine (args_c _).mono ?_; rintro e w1 ⟨rfl, rfl⟩; first | (have hcx : (W.alloc (.cells argCs 3)).cell? ⟨W.heap.size, k, none⟩ = some (.int .i64 (argN k)) := (Cel.new W argCs 3 k _ (argCs_at k hk)).1)))
    all_goals
      have HB2 := Lib.hid ((Below.alloc HB.out (by have := HS.out; omega) (.cells argCs 3)).drewN 1)
      have r1 := ((y1.alloc (.cells argCs 3)).drew).1
      have r2 := ((y2.alloc (.cells argCs 3)).drew).1
      have r3 := ((y3.alloc (.cells argCs 3)).drew).1
      rw [show (W.alloc (.cells argCs 3)).drewN 1 = (W.alloc (.cells argCs 3)).drew from rfl] at HB2
      have q1 : (W.alloc (.cells argCs 3)).drew.cell? ⟨S, 1, none⟩ = some (.int .u64 a) := r1
      have q2 : (W.alloc (.cells argCs 3)).drew.cell? ⟨S, 2, none⟩ = some (.int .u64 b) := r2
      have q3 : (W.alloc (.cells argCs 3)).drew.cell? ⟨S, 3, none⟩ = some (.int .u64 c) := r3
      clear y0 y1 y2 y3 z0 hcx r1 r2 r3 hs i0 i1 t1 t2
      generalize (W.alloc (.cells argCs 3)).drew = V at *
      generalize hn : argN k = n at *
      replace hn := Lib.hid hn
      go_wp2
    all_goals go_ret
    all_goals refine ⟨?_, by rw [hSw.out]; exact HB2.out⟩
    all_goals rw [hn.out]
    all_goals first | rfl | (simp; omega) | (simp [*]; done) | (simp [*]; omega) | (simp; trace_state)
  · have hv : rightC op a b c = false := by unfold rightC; simp; omega
    rw [hv]
    have HB := Lib.hid (Below.alloc (Below.refl w.heap.size w) (Nat.le_refl _) (.cells #[.int .i64 op, .int .u64 a, .int .u64 b, .int .u64 c] 45))
    clear hv
    by_cases h1 : op < 0
    · go_enter Try.func37, Try.ntmps37
      go_wp2
      go_ret
      exact ⟨rfl, HB.out⟩
    · have h2 : 13 ≤ op := by omega
      go_enter Try.func37, Try.ntmps37
      go_wp2
      go_ret
      exact ⟨rfl, HB.out⟩
end Go.Proofs.Ytamnibfaoikdbaa
