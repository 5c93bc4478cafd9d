/- BoxPlays: a step. No condition. -/
import Derived.Test.YtkpiphihmmhhpaaBds
import Derived.Test.YtkpiphihmmhhpaaSince
import Derived.BigQuiet
import Derived.Deep.RegionHeld3
namespace Go.Proofs.Ytkpiphihmmhhpaa
open Go.RowKit
set_option linter.unusedVariables false
set_option linter.unusedSimpArgs false
set_option maxRecDepth 100000

theorem blU {W w5 : World} {k : Nat} (h : Below (W.drewN k).heap.size (W.drewN k) w5) : Below W.heap.size W w5 := ⟨h.os, h.tape, h.output, h.size, h.block⟩
theorem RowS.opn {w : World} {E : Nat} {v : Value} {X L : List Int} (h : RowS w E v X) (hL : Hid (L = X)) : ∃ A c, v = .slice A L.length c ∧ RowS w E (.slice A L.length c) L := by
  obtain ⟨A, c, rfl, h1⟩ := h
  rw [hL.out]
  exact ⟨A, c, rfl, A, c, rfl, h1⟩
theorem rfetch_n {w : World} {E : Nat} {v : Value} {X L : List Int} {hd : Int} {ok : Bool} (h : RowS w E v X) (hl : X.length ≤ 4096) (hh : Hid (hd = X.headD 0)) (ho : Hid (ok = decide (X ≠ []))) (hL : Hid (L = X.tail)) :
    Calls Try.prog 47 #[v] w fun e w' => ∃ A c, e = .returned (.tuple #[.slice A L.length c, .int .i64 hd, .bool ok]) ∧ RowS w' E (.slice A L.length c) L ∧ Below w.heap.size w w' := by
  refine (rfetch_c h hl).mono ?_
  rintro e w' ⟨v', rfl, R, F⟩
  obtain ⟨A, c, rfl, R2⟩ := R.opn hL
  rw [hh.out, ho.out]
  exact ⟨A, c, rfl, R2, F⟩
theorem fetch_n {w : World} {B c cap : Nat} {X L : List Int} {hd : Int} {ok : Bool} (h : BoxS w B c cap (X.map (Value.int .i64))) (hh : Hid (hd = X.headD 0)) (ho : Hid (ok = decide (X ≠ []))) (hL : Hid (L = X.tail)) :
    Calls Try.prog 21 #[.pointer (some ⟨B, 0, none⟩)] w fun e w' => e = .returned (.tuple #[.int .i64 hd, .bool ok]) ∧ BoxS w' B c cap (L.map (Value.int .i64)) ∧ FrB (fun k => k = c) w w' := by
  refine (fetch_int h).mono ?_
  rintro e w' ⟨rfl, K, F⟩
  rw [hh.out, ho.out, hL.out]
  cases X with
  | nil => exact ⟨rfl, K, F⟩
  | cons q T => exact ⟨rfl, K, F⟩

set_option maxHeartbeats 8000000 in
theorem does_0a {w0 w : World} {V B c B2 c2 n m E : Nat} {vx vy : Value} {X Y : List Int} (h : PlB w0 w V B c B2 c2 n m E vx vy X Y X Y) (y : Int) :
    Calls Try.prog 38 #[.pointer (some ⟨V, 0, none⟩), .agg #[.int .i64 0, .int .i64 y, .bool false]] w fun e w' => ∃ vx' vy' X' Y', e = .returned (.bool true) ∧ PlB w0 w' V B c B2 c2 n m E vx' vy' X' Y' X' Y' := by
  have W0B := blA (Below.refl w.heap.size w) (.cells #[.int .i64 0, .int .i64 y, .bool false] 65)
  have S := Lib.hid (h.below W0B)
  have OV := Lib.hid (show OpV (w.alloc (.cells #[.int .i64 0, .int .i64 y, .bool false] 65)) w.heap.size 0 y false from ⟨Cel.new w _ _ 0 _ rfl, Cel.new w _ _ 1 _ rfl, Cel.new w _ _ 2 _ rfl⟩)
  have hM := Lib.hid (show V < w.heap.size ∧ c < w.heap.size ∧ c2 < w.heap.size ∧ E ≤ w.heap.size from ⟨h.b0.lt, h.t.a.s.lt.2, h.t.b.s.lt.2, h.e.2.2.2.2.2⟩)
  have hVM : V ≠ w.heap.size := by have := hM.out; omega
  clear h W0B
  go_enter Try.func38, Try.ntmps38
  go_wp2_with fail
  generalize w.alloc (.cells #[.int .i64 0, .int .i64 y, .bool false] 65) = W at *
  generalize w.heap.size = M at *
  have f0 := S.out.b0.1; have f1 := S.out.b1.1; have f2 := S.out.b2.1; have f3 := S.out.b3.1; have f4 := S.out.b4.1; have f5 := S.out.b5.1
  have o0 := OV.out.1.1; have o1 := OV.out.2.1.1; have o2 := OV.out.2.2.1
  go_quiet (fail)
  go_wp2_with fail
  obtain ⟨L, hL⟩ : ∃ L : List Int, L = (if X.length < n then X ++ [y] else X) := ⟨_, rfl⟩
  replace hL := Lib.hid hL
  go_region_held3 (fun w' => w'.cell? ⟨V, 2, none⟩ = some vx ∧ w'.cell? ⟨M, 1, none⟩ = some (.int .i64 y)) (first | exact ⟨f2, o1⟩ | exact ⟨S5.b2.1, OV5.2.1.1⟩) (first | (go_at_call 46; refine (rpost_c (E := E) (n := n) (y := y) (w := W.drewN _) S.out.x (by have := S.out.e; simp; omega) (by have := S.out.lenP; omega)).mono ?_; rintro e w5 ⟨v', rfl, R5, F⟩; obtain ⟨A5, c5, rfl, R6⟩ := R5.opn hL; have F' := blU F; have S5 := S.out.below F'; have OV5 := OV.out.below F') | fail)
  clear f0 f1 f2 f3 f4 f5 o0 o1 o2 F F'
  have g2 := S5.b2.1; have g3 := S5.b2.2
  have OV6 := OV5.set (V := V) (i := 2) hVM (.slice A5 L.length c5)
  have S6 := Lib.hid (S5.putX R6)
  have o1 := OV6.2.1.1
  clear S OV S5 OV5 OV6 R6
  go_wp2_with fail
  generalize w5.setCell ⟨V, 2, none⟩ (.slice A5 L.length c5) = w6 at *
  refine (post_int S6.out.t.a.s y).mono ?_
  rintro e w7 ⟨rfl, K, F⟩
  rw [List.length_map] at K ⊢
  by_cases hf : X.length < n
  · rw [if_pos hf] at K
    have S7 := Lib.hid (S6.out.opA (P' := X ++ [y]) (by simpa using K) F)
    have h9 := hL.out
    rw [if_pos hf] at h9
    rw [h9] at S7
    rw [decide_eq_true hf]
    replace hf := Lib.hid hf
    clear K F S6 o1 g2 g3
    go_wp2
    go_ret
    exact ⟨_, _, _, _, rfl, S7.out⟩
  · rw [if_neg hf] at K
    have S7 := Lib.hid (S6.out.opA (P' := X) K F)
    have h9 := hL.out
    rw [if_neg hf] at h9
    rw [h9] at S7
    rw [decide_eq_false hf]
    replace hf := Lib.hid hf
    clear K F S6 o1 g2 g3
    go_wp2
    go_ret
    exact ⟨_, _, _, _, rfl, S7.out⟩

set_option maxHeartbeats 8000000 in
theorem does_0b {w0 w : World} {V B c B2 c2 n m E : Nat} {vx vy : Value} {X Y : List Int} (h : PlB w0 w V B c B2 c2 n m E vx vy X Y X Y) (y : Int) :
    Calls Try.prog 38 #[.pointer (some ⟨V, 0, none⟩), .agg #[.int .i64 0, .int .i64 y, .bool true]] w fun e w' => ∃ vx' vy' X' Y', e = .returned (.bool true) ∧ PlB w0 w' V B c B2 c2 n m E vx' vy' X' Y' X' Y' := by
  have W0B := blA (Below.refl w.heap.size w) (.cells #[.int .i64 0, .int .i64 y, .bool true] 65)
  have S := Lib.hid (h.below W0B)
  have OV := Lib.hid (show OpV (w.alloc (.cells #[.int .i64 0, .int .i64 y, .bool true] 65)) w.heap.size 0 y true from ⟨Cel.new w _ _ 0 _ rfl, Cel.new w _ _ 1 _ rfl, Cel.new w _ _ 2 _ rfl⟩)
  have hM := Lib.hid (show V < w.heap.size ∧ c < w.heap.size ∧ c2 < w.heap.size ∧ E ≤ w.heap.size from ⟨h.b0.lt, h.t.a.s.lt.2, h.t.b.s.lt.2, h.e.2.2.2.2.2⟩)
  have hVM : V ≠ w.heap.size := by have := hM.out; omega
  clear h W0B
  go_enter Try.func38, Try.ntmps38
  go_wp2_with fail
  generalize w.alloc (.cells #[.int .i64 0, .int .i64 y, .bool true] 65) = W at *
  generalize w.heap.size = M at *
  have f0 := S.out.b0.1; have f1 := S.out.b1.1; have f2 := S.out.b2.1; have f3 := S.out.b3.1; have f4 := S.out.b4.1; have f5 := S.out.b5.1
  have o0 := OV.out.1.1; have o1 := OV.out.2.1.1; have o2 := OV.out.2.2.1
  go_quiet (fail)
  go_wp2_with fail
  go_quiet (fail)
  go_wp2_with fail
  obtain ⟨L, hL⟩ : ∃ L : List Int, L = (if Y.length < m then Y ++ [y] else Y) := ⟨_, rfl⟩
  replace hL := Lib.hid hL
  go_region_held3 (fun w' => w'.cell? ⟨V, 3, none⟩ = some vy ∧ w'.cell? ⟨M, 1, none⟩ = some (.int .i64 y)) (first | exact ⟨f3, o1⟩ | exact ⟨S5.b3.1, OV5.2.1.1⟩) (first | (go_at_call 46; refine (rpost_c (E := E) (n := m) (y := y) (w := W.drewN _) S.out.y (by have := S.out.e; simp; omega) (by have := S.out.lenQ; omega)).mono ?_; rintro e w5 ⟨v', rfl, R5, F⟩; obtain ⟨A5, c5, rfl, R6⟩ := R5.opn hL; have F' := blU F; have S5 := S.out.below F'; have OV5 := OV.out.below F') | fail)
  clear f0 f1 f2 f3 f4 f5 o0 o1 o2 F F'
  have g2 := S5.b3.1; have g3 := S5.b3.2
  have OV6 := OV5.set (V := V) (i := 3) hVM (.slice A5 L.length c5)
  have S6 := Lib.hid (S5.putY R6)
  have o1 := OV6.2.1.1
  clear S OV S5 OV5 OV6 R6
  go_wp2_with fail
  generalize w5.setCell ⟨V, 3, none⟩ (.slice A5 L.length c5) = w6 at *
  refine (post_int S6.out.t.b.s y).mono ?_
  rintro e w7 ⟨rfl, K, F⟩
  rw [List.length_map] at K ⊢
  by_cases hf : Y.length < m
  · rw [if_pos hf] at K
    have S7 := Lib.hid (S6.out.opB (Q' := Y ++ [y]) (by simpa using K) F)
    have h9 := hL.out
    rw [if_pos hf] at h9
    rw [h9] at S7
    rw [decide_eq_true hf]
    replace hf := Lib.hid hf
    clear K F S6 o1 g2 g3
    go_wp2
    go_ret
    exact ⟨_, _, _, _, rfl, S7.out⟩
  · rw [if_neg hf] at K
    have S7 := Lib.hid (S6.out.opB (Q' := Y) K F)
    have h9 := hL.out
    rw [if_neg hf] at h9
    rw [h9] at S7
    rw [decide_eq_false hf]
    replace hf := Lib.hid hf
    clear K F S6 o1 g2 g3
    go_wp2
    go_ret
    exact ⟨_, _, _, _, rfl, S7.out⟩

set_option maxHeartbeats 8000000 in
theorem does_1a {w0 w : World} {V B c B2 c2 n m E : Nat} {vx vy : Value} {X Y : List Int} (h : PlB w0 w V B c B2 c2 n m E vx vy X Y X Y) (y : Int) :
    Calls Try.prog 38 #[.pointer (some ⟨V, 0, none⟩), .agg #[.int .i64 1, .int .i64 y, .bool false]] w fun e w' => ∃ vx' vy' X' Y', e = .returned (.bool true) ∧ PlB w0 w' V B c B2 c2 n m E vx' vy' X' Y' X' Y' := by
  have W0B := blA (Below.refl w.heap.size w) (.cells #[.int .i64 1, .int .i64 y, .bool false] 65)
  have S := Lib.hid (h.below W0B)
  have OV := Lib.hid (show OpV (w.alloc (.cells #[.int .i64 1, .int .i64 y, .bool false] 65)) w.heap.size 1 y false from ⟨Cel.new w _ _ 0 _ rfl, Cel.new w _ _ 1 _ rfl, Cel.new w _ _ 2 _ rfl⟩)
  have hM := Lib.hid (show V < w.heap.size ∧ c < w.heap.size ∧ c2 < w.heap.size ∧ E ≤ w.heap.size from ⟨h.b0.lt, h.t.a.s.lt.2, h.t.b.s.lt.2, h.e.2.2.2.2.2⟩)
  have hVM : V ≠ w.heap.size := by have := hM.out; omega
  clear h W0B
  go_enter Try.func38, Try.ntmps38
  go_wp2_with fail
  generalize w.alloc (.cells #[.int .i64 1, .int .i64 y, .bool false] 65) = W at *
  generalize w.heap.size = M at *
  have f0 := S.out.b0.1; have f1 := S.out.b1.1; have f2 := S.out.b2.1; have f3 := S.out.b3.1; have f4 := S.out.b4.1; have f5 := S.out.b5.1
  have o0 := OV.out.1.1; have o1 := OV.out.2.1.1; have o2 := OV.out.2.2.1
  go_quiet (fail)
  go_wp2_with fail
  obtain ⟨L, hL⟩ : ∃ L : List Int, L = X.tail := ⟨_, rfl⟩
  obtain ⟨hd, hhd⟩ : ∃ hd, hd = X.headD 0 := ⟨_, rfl⟩
  obtain ⟨ok, hok⟩ : ∃ ok, ok = decide (X ≠ []) := ⟨_, rfl⟩
  replace hL := Lib.hid hL; replace hhd := Lib.hid hhd; replace hok := Lib.hid hok
  refine (rfetch_n (E := E) (w := W.drewN _) S.out.x (by have := S.out.lenP; omega) hhd hok hL).mono ?_
  rintro e w5 ⟨A5, c5, rfl, R6, F⟩
  have F' := blU F
  have S5 := S.out.below F'
  clear f0 f1 f2 f3 f4 f5 o0 o1 o2 F F'
  have g2 := S5.b2.1; have g3 := S5.b2.2
  have S6 := Lib.hid (S5.putX R6)
  clear S OV S5 R6
  go_wp2_with fail
  generalize w5.setCell ⟨V, 2, none⟩ (.slice A5 L.length c5) = w6 at *
  refine (fetch_n S6.out.t.a.s hhd hok hL).mono ?_
  rintro e w7 ⟨rfl, K, F⟩
  have S7 := Lib.hid (S6.out.opA K F)
  clear K F S6 g2 g3
  go_wp2
  go_ret
  exact ⟨_, _, _, _, rfl, S7.out⟩

set_option maxHeartbeats 8000000 in
theorem does_1b {w0 w : World} {V B c B2 c2 n m E : Nat} {vx vy : Value} {X Y : List Int} (h : PlB w0 w V B c B2 c2 n m E vx vy X Y X Y) (y : Int) :
    Calls Try.prog 38 #[.pointer (some ⟨V, 0, none⟩), .agg #[.int .i64 1, .int .i64 y, .bool true]] w fun e w' => ∃ vx' vy' X' Y', e = .returned (.bool true) ∧ PlB w0 w' V B c B2 c2 n m E vx' vy' X' Y' X' Y' := by
  have W0B := blA (Below.refl w.heap.size w) (.cells #[.int .i64 1, .int .i64 y, .bool true] 65)
  have S := Lib.hid (h.below W0B)
  have OV := Lib.hid (show OpV (w.alloc (.cells #[.int .i64 1, .int .i64 y, .bool true] 65)) w.heap.size 1 y true from ⟨Cel.new w _ _ 0 _ rfl, Cel.new w _ _ 1 _ rfl, Cel.new w _ _ 2 _ rfl⟩)
  have hM := Lib.hid (show V < w.heap.size ∧ c < w.heap.size ∧ c2 < w.heap.size ∧ E ≤ w.heap.size from ⟨h.b0.lt, h.t.a.s.lt.2, h.t.b.s.lt.2, h.e.2.2.2.2.2⟩)
  have hVM : V ≠ w.heap.size := by have := hM.out; omega
  clear h W0B
  go_enter Try.func38, Try.ntmps38
  go_wp2_with fail
  generalize w.alloc (.cells #[.int .i64 1, .int .i64 y, .bool true] 65) = W at *
  generalize w.heap.size = M at *
  have f0 := S.out.b0.1; have f1 := S.out.b1.1; have f2 := S.out.b2.1; have f3 := S.out.b3.1; have f4 := S.out.b4.1; have f5 := S.out.b5.1
  have o0 := OV.out.1.1; have o1 := OV.out.2.1.1; have o2 := OV.out.2.2.1
  go_quiet (fail)
  go_wp2_with fail
  go_quiet (fail)
  go_wp2_with fail
  obtain ⟨L, hL⟩ : ∃ L : List Int, L = Y.tail := ⟨_, rfl⟩
  obtain ⟨hd, hhd⟩ : ∃ hd, hd = Y.headD 0 := ⟨_, rfl⟩
  obtain ⟨ok, hok⟩ : ∃ ok, ok = decide (Y ≠ []) := ⟨_, rfl⟩
  replace hL := Lib.hid hL; replace hhd := Lib.hid hhd; replace hok := Lib.hid hok
  refine (rfetch_n (E := E) (w := W.drewN _) S.out.y (by have := S.out.lenQ; omega) hhd hok hL).mono ?_
  rintro e w5 ⟨A5, c5, rfl, R6, F⟩
  have F' := blU F
  have S5 := S.out.below F'
  clear f0 f1 f2 f3 f4 f5 o0 o1 o2 F F'
  have g2 := S5.b3.1; have g3 := S5.b3.2
  have S6 := Lib.hid (S5.putY R6)
  clear S OV S5 R6
  go_wp2_with fail
  generalize w5.setCell ⟨V, 3, none⟩ (.slice A5 L.length c5) = w6 at *
  refine (fetch_n S6.out.t.b.s hhd hok hL).mono ?_
  rintro e w7 ⟨rfl, K, F⟩
  have S7 := Lib.hid (S6.out.opB K F)
  clear K F S6 g2 g3
  go_wp2
  go_ret
  exact ⟨_, _, _, _, rfl, S7.out⟩

set_option maxHeartbeats 8000000 in
theorem does_2a {w0 w : World} {V B c B2 c2 n m E : Nat} {vx vy : Value} {X Y : List Int} (h : PlB w0 w V B c B2 c2 n m E vx vy X Y X Y) (y : Int) :
    Calls Try.prog 38 #[.pointer (some ⟨V, 0, none⟩), .agg #[.int .i64 2, .int .i64 y, .bool false]] w fun e w' => ∃ vx' vy' X' Y', e = .returned (.bool true) ∧ PlB w0 w' V B c B2 c2 n m E vx' vy' X' Y' X' Y' := by
  have W0B := blA (Below.refl w.heap.size w) (.cells #[.int .i64 2, .int .i64 y, .bool false] 65)
  have S := Lib.hid (h.below W0B)
  have OV := Lib.hid (show OpV (w.alloc (.cells #[.int .i64 2, .int .i64 y, .bool false] 65)) w.heap.size 2 y false from ⟨Cel.new w _ _ 0 _ rfl, Cel.new w _ _ 1 _ rfl, Cel.new w _ _ 2 _ rfl⟩)
  have hM := Lib.hid (show V < w.heap.size ∧ c < w.heap.size ∧ c2 < w.heap.size ∧ E ≤ w.heap.size from ⟨h.b0.lt, h.t.a.s.lt.2, h.t.b.s.lt.2, h.e.2.2.2.2.2⟩)
  have hVM : V ≠ w.heap.size := by have := hM.out; omega
  clear h W0B
  go_enter Try.func38, Try.ntmps38
  go_wp2_with fail
  generalize w.alloc (.cells #[.int .i64 2, .int .i64 y, .bool false] 65) = W at *
  generalize w.heap.size = M at *
  have f0 := S.out.b0.1; have f1 := S.out.b1.1; have f2 := S.out.b2.1; have f3 := S.out.b3.1; have f4 := S.out.b4.1; have f5 := S.out.b5.1
  have o0 := OV.out.1.1; have o1 := OV.out.2.1.1; have o2 := OV.out.2.2.1
  go_quiet (fail)
  go_wp2_with fail
  obtain ⟨L, hL⟩ : ∃ L : List Int, L = X.filter (fun x => x != y) := ⟨_, rfl⟩
  replace hL := Lib.hid hL
  go_region_held3 (fun w' => w'.cell? ⟨V, 2, none⟩ = some vx ∧ w'.cell? ⟨M, 1, none⟩ = some (.int .i64 y)) (first | exact ⟨f2, o1⟩ | exact ⟨S5.b2.1, OV5.2.1.1⟩) (first | (go_at_call 48; refine (rsift_c (E := E) (y := y) (w := W.drewN _) S.out.x (by have := S.out.e; simp; omega) (by have := S.out.lenP; omega)).mono ?_; rintro e w5 ⟨v', rfl, R5, F⟩; obtain ⟨A5, c5, rfl, R6⟩ := R5.opn hL; have F' := blU F; have S5 := S.out.below F'; have OV5 := OV.out.below F') | fail)
  clear f0 f1 f2 f3 f4 f5 o0 o1 o2 F F'
  have g2 := S5.b2.1; have g3 := S5.b2.2
  have OV6 := Lib.hid (OV5.set (V := V) (i := 2) hVM (.slice A5 L.length c5))
  have S6 := Lib.hid (S5.putX R6)
  have hmf : ∀ (fn : Fn) (first cap : Array Value) (w : World), (Instr.makeFunc fn first cap).run Try.prog w = .ok (.func fn first cap) w := fun _ _ _ _ => rfl
  clear S OV S5 OV5 R6
  go_wp2_with fail
  generalize w5.setCell ⟨V, 2, none⟩ (.slice A5 L.length c5) = w6 at *
  refine (sift_does (p := fun x => x != y) (M := M) S6.out.t.a.s ⟨OV6.out.1.lt, by have := hM.out; omega⟩ (fun w' hw' x => clo_does (m := y) ((hw' 1).trans OV6.out.2.1.1) x)).mono ?_
  rintro e w7 ⟨rfl, K, F⟩
  rw [← hL.out] at K
  have S7 := Lib.hid (S6.out.opA K F)
  generalize X.length - (X.filter (fun x => x != y)).length = d at *
  clear K F S6 g2 g3
  go_wp2
  go_ret
  exact ⟨_, _, _, _, rfl, S7.out⟩

set_option maxHeartbeats 8000000 in
theorem does_2b {w0 w : World} {V B c B2 c2 n m E : Nat} {vx vy : Value} {X Y : List Int} (h : PlB w0 w V B c B2 c2 n m E vx vy X Y X Y) (y : Int) :
    Calls Try.prog 38 #[.pointer (some ⟨V, 0, none⟩), .agg #[.int .i64 2, .int .i64 y, .bool true]] w fun e w' => ∃ vx' vy' X' Y', e = .returned (.bool true) ∧ PlB w0 w' V B c B2 c2 n m E vx' vy' X' Y' X' Y' := by
  have W0B := blA (Below.refl w.heap.size w) (.cells #[.int .i64 2, .int .i64 y, .bool true] 65)
  have S := Lib.hid (h.below W0B)
  have OV := Lib.hid (show OpV (w.alloc (.cells #[.int .i64 2, .int .i64 y, .bool true] 65)) w.heap.size 2 y true from ⟨Cel.new w _ _ 0 _ rfl, Cel.new w _ _ 1 _ rfl, Cel.new w _ _ 2 _ rfl⟩)
  have hM := Lib.hid (show V < w.heap.size ∧ c < w.heap.size ∧ c2 < w.heap.size ∧ E ≤ w.heap.size from ⟨h.b0.lt, h.t.a.s.lt.2, h.t.b.s.lt.2, h.e.2.2.2.2.2⟩)
  have hVM : V ≠ w.heap.size := by have := hM.out; omega
  clear h W0B
  go_enter Try.func38, Try.ntmps38
  go_wp2_with fail
  generalize w.alloc (.cells #[.int .i64 2, .int .i64 y, .bool true] 65) = W at *
  generalize w.heap.size = M at *
  have f0 := S.out.b0.1; have f1 := S.out.b1.1; have f2 := S.out.b2.1; have f3 := S.out.b3.1; have f4 := S.out.b4.1; have f5 := S.out.b5.1
  have o0 := OV.out.1.1; have o1 := OV.out.2.1.1; have o2 := OV.out.2.2.1
  go_quiet (fail)
  go_wp2_with fail
  go_quiet (fail)
  go_wp2_with fail
  obtain ⟨L, hL⟩ : ∃ L : List Int, L = Y.filter (fun x => x != y) := ⟨_, rfl⟩
  replace hL := Lib.hid hL
  go_region_held3 (fun w' => w'.cell? ⟨V, 3, none⟩ = some vy ∧ w'.cell? ⟨M, 1, none⟩ = some (.int .i64 y)) (first | exact ⟨f3, o1⟩ | exact ⟨S5.b3.1, OV5.2.1.1⟩) (first | (go_at_call 48; refine (rsift_c (E := E) (y := y) (w := W.drewN _) S.out.y (by have := S.out.e; simp; omega) (by have := S.out.lenQ; omega)).mono ?_; rintro e w5 ⟨v', rfl, R5, F⟩; obtain ⟨A5, c5, rfl, R6⟩ := R5.opn hL; have F' := blU F; have S5 := S.out.below F'; have OV5 := OV.out.below F') | fail)
  clear f0 f1 f2 f3 f4 f5 o0 o1 o2 F F'
  have g2 := S5.b3.1; have g3 := S5.b3.2
  have OV6 := Lib.hid (OV5.set (V := V) (i := 3) hVM (.slice A5 L.length c5))
  have S6 := Lib.hid (S5.putY R6)
  have hmf : ∀ (fn : Fn) (first cap : Array Value) (w : World), (Instr.makeFunc fn first cap).run Try.prog w = .ok (.func fn first cap) w := fun _ _ _ _ => rfl
  clear S OV S5 OV5 R6
  go_wp2_with fail
  generalize w5.setCell ⟨V, 3, none⟩ (.slice A5 L.length c5) = w6 at *
  refine (sift_does (p := fun x => x != y) (M := M) S6.out.t.b.s ⟨OV6.out.1.lt, by have := hM.out; omega⟩ (fun w' hw' x => clo_does (m := y) ((hw' 1).trans OV6.out.2.1.1) x)).mono ?_
  rintro e w7 ⟨rfl, K, F⟩
  rw [← hL.out] at K
  have S7 := Lib.hid (S6.out.opB K F)
  generalize Y.length - (Y.filter (fun x => x != y)).length = d at *
  clear K F S6 g2 g3
  go_wp2
  go_ret
  exact ⟨_, _, _, _, rfl, S7.out⟩

set_option maxHeartbeats 8000000 in
theorem does_3a {w0 w : World} {V B c B2 c2 n m E : Nat} {vx vy : Value} {X Y : List Int} (h : PlB w0 w V B c B2 c2 n m E vx vy X Y X Y) (y : Int) :
    Calls Try.prog 38 #[.pointer (some ⟨V, 0, none⟩), .agg #[.int .i64 3, .int .i64 y, .bool false]] w fun e w' => ∃ vx' vy' X' Y', e = .returned (.bool true) ∧ PlB w0 w' V B c B2 c2 n m E vx' vy' X' Y' X' Y' := by
  have W0B := blA (Below.refl w.heap.size w) (.cells #[.int .i64 3, .int .i64 y, .bool false] 65)
  have S := Lib.hid (h.below W0B)
  have OV := Lib.hid (show OpV (w.alloc (.cells #[.int .i64 3, .int .i64 y, .bool false] 65)) w.heap.size 3 y false from ⟨Cel.new w _ _ 0 _ rfl, Cel.new w _ _ 1 _ rfl, Cel.new w _ _ 2 _ rfl⟩)
  have hM := Lib.hid (show V < w.heap.size ∧ c < w.heap.size ∧ c2 < w.heap.size ∧ E ≤ w.heap.size from ⟨h.b0.lt, h.t.a.s.lt.2, h.t.b.s.lt.2, h.e.2.2.2.2.2⟩)
  have hVM : V ≠ w.heap.size := by have := hM.out; omega
  clear h W0B
  go_enter Try.func38, Try.ntmps38
  go_wp2_with fail
  generalize w.alloc (.cells #[.int .i64 3, .int .i64 y, .bool false] 65) = W at *
  generalize w.heap.size = M at *
  have f0 := S.out.b0.1; have f1 := S.out.b1.1; have f2 := S.out.b2.1; have f3 := S.out.b3.1; have f4 := S.out.b4.1; have f5 := S.out.b5.1
  have o0 := OV.out.1.1; have o1 := OV.out.2.1.1; have o2 := OV.out.2.2.1
  go_quiet (fail)
  go_wp2_with fail
  cases Y with
  | cons q Y' =>
    go_region_held3 (fun w' => w'.cell? ⟨V, 0, none⟩ = some (.pointer (some ⟨B, 0, none⟩)) ∧ w'.cell? ⟨V, 1, none⟩ = some (.pointer (some ⟨B2, 0, none⟩))) (first | exact ⟨f0, f1⟩ | exact ⟨S5.b0.1, S5.b1.1⟩) (first | (go_at_call 45; refine (either_a_int (S.out.drewN _).t.b.s _).mono ?_; rintro e w5 ⟨rfl, K, F⟩; have S5 := (S.out.drewN _).opB (Q' := Y') K F) | fail)
    have hlP := Lib.hid S.out.lenP; have hlQ := Lib.hid S.out.lenQ
    clear f0 f1 f2 f3 f4 f5 o0 o1 o2 S OV
    have g0 := S5.b3.1
    replace S5 := Lib.hid S5
    go_wp2_with fail
    refine (rfetch_n (E := E) (hd := q) (ok := true) (L := Y') S5.out.y (by have := hlQ.out; simp at this ⊢; omega) (Lib.hid rfl) (Lib.hid rfl) (Lib.hid rfl)).mono ?_
    rintro e w6 ⟨A6, c6, rfl, R6, F⟩
    have S6 := S5.out.below F
    have g2 := S6.b3.1; have g3 := S6.b3.2
    have S7 := Lib.hid (S6.putY R6)
    clear F S5 S6 R6 g0
    go_wp2
    go_ret
    exact ⟨_, _, _, _, rfl, S7.out⟩
  | nil =>
    cases X with
    | cons q X' =>
      go_region_held3 (fun w' => w'.cell? ⟨V, 0, none⟩ = some (.pointer (some ⟨B, 0, none⟩)) ∧ w'.cell? ⟨V, 1, none⟩ = some (.pointer (some ⟨B2, 0, none⟩))) (first | exact ⟨f0, f1⟩ | exact ⟨S5.b0.1, S5.b1.1⟩) (first | (go_at_call 45; refine (either_b_int (S.out.drewN _).t.b.s (S.out.drewN _).t.a.s).mono ?_; rintro e w5 ⟨rfl, K, F⟩; have S5 := (S.out.drewN _).opA (P' := X') K F) | fail)
      have hlP := Lib.hid S.out.lenP; have hlQ := Lib.hid S.out.lenQ
      clear f0 f1 f2 f3 f4 f5 o0 o1 o2 S OV
      have g0 := S5.b3.1
      replace S5 := Lib.hid S5
      go_wp2_with fail
      refine (rfetch_n (E := E) (hd := 0) (ok := false) (L := []) S5.out.y (by simp) (Lib.hid rfl) (Lib.hid rfl) (Lib.hid rfl)).mono ?_
      rintro e w6 ⟨A6, c6, rfl, R6, F⟩
      have S6 := Lib.hid (S5.out.below F)
      have g1 := S6.out.b2.1
      clear F S5 R6 g0
      go_wp2_with fail
      refine (rfetch_n (E := E) (hd := q) (ok := true) (L := X') S6.out.x (by have := hlP.out; simp at this ⊢; try omega) (Lib.hid rfl) (Lib.hid rfl) (Lib.hid rfl)).mono ?_
      rintro e w7 ⟨A7, c7, rfl, R7, F⟩
      have S7 := S6.out.below F
      have g2 := S7.b2.1; have g3 := S7.b2.2
      have S8 := Lib.hid (S7.putX R7)
      clear F S6 S7 R7 g1
      go_wp2
      go_ret
      exact ⟨_, _, _, _, rfl, S8.out⟩
    | nil =>
      go_region_held3 (fun w' => w'.cell? ⟨V, 0, none⟩ = some (.pointer (some ⟨B, 0, none⟩)) ∧ w'.cell? ⟨V, 1, none⟩ = some (.pointer (some ⟨B2, 0, none⟩))) (first | exact ⟨f0, f1⟩ | exact ⟨S5.b0.1, S5.b1.1⟩) (first | (go_at_call 45; refine (either_n_int (S.out.drewN _).t.b.s (S.out.drewN _).t.a.s).mono ?_; rintro e w5 ⟨rfl, F⟩; have F' := blU F; have S5 := S.out.below F') | fail)
      have hlP := Lib.hid S.out.lenP; have hlQ := Lib.hid S.out.lenQ
      clear f0 f1 f2 f3 f4 f5 o0 o1 o2 S OV
      have g0 := S5.b3.1
      replace S5 := Lib.hid S5
      go_wp2_with fail
      refine (rfetch_n (E := E) (hd := 0) (ok := false) (L := []) S5.out.y (by simp) (Lib.hid rfl) (Lib.hid rfl) (Lib.hid rfl)).mono ?_
      rintro e w6 ⟨A6, c6, rfl, R6, F⟩
      have S6 := Lib.hid (S5.out.below F)
      have g1 := S6.out.b2.1
      clear F S5 R6 g0
      go_wp2_with fail
      refine (rfetch_n (E := E) (hd := 0) (ok := false) (L := []) S6.out.x (by have := hlP.out; simp at this ⊢; try omega) (Lib.hid rfl) (Lib.hid rfl) (Lib.hid rfl)).mono ?_
      rintro e w7 ⟨A7, c7, rfl, R7, F⟩
      have S7 := S6.out.below F
      have g2 := S7.b2.1; have g3 := S7.b2.2
      have S8 := Lib.hid (S7.putX R7)
      clear F S6 S7 R7 g1
      go_wp2
      go_ret
      exact ⟨_, _, _, _, rfl, S8.out⟩

set_option maxHeartbeats 8000000 in
theorem does_3b {w0 w : World} {V B c B2 c2 n m E : Nat} {vx vy : Value} {X Y : List Int} (h : PlB w0 w V B c B2 c2 n m E vx vy X Y X Y) (y : Int) :
    Calls Try.prog 38 #[.pointer (some ⟨V, 0, none⟩), .agg #[.int .i64 3, .int .i64 y, .bool true]] w fun e w' => ∃ vx' vy' X' Y', e = .returned (.bool true) ∧ PlB w0 w' V B c B2 c2 n m E vx' vy' X' Y' X' Y' := by
  have W0B := blA (Below.refl w.heap.size w) (.cells #[.int .i64 3, .int .i64 y, .bool true] 65)
  have S := Lib.hid (h.below W0B)
  have OV := Lib.hid (show OpV (w.alloc (.cells #[.int .i64 3, .int .i64 y, .bool true] 65)) w.heap.size 3 y true from ⟨Cel.new w _ _ 0 _ rfl, Cel.new w _ _ 1 _ rfl, Cel.new w _ _ 2 _ rfl⟩)
  have hM := Lib.hid (show V < w.heap.size ∧ c < w.heap.size ∧ c2 < w.heap.size ∧ E ≤ w.heap.size from ⟨h.b0.lt, h.t.a.s.lt.2, h.t.b.s.lt.2, h.e.2.2.2.2.2⟩)
  have hVM : V ≠ w.heap.size := by have := hM.out; omega
  clear h W0B
  go_enter Try.func38, Try.ntmps38
  go_wp2_with fail
  generalize w.alloc (.cells #[.int .i64 3, .int .i64 y, .bool true] 65) = W at *
  generalize w.heap.size = M at *
  have f0 := S.out.b0.1; have f1 := S.out.b1.1; have f2 := S.out.b2.1; have f3 := S.out.b3.1; have f4 := S.out.b4.1; have f5 := S.out.b5.1
  have o0 := OV.out.1.1; have o1 := OV.out.2.1.1; have o2 := OV.out.2.2.1
  go_quiet (fail)
  go_wp2_with fail
  go_quiet (fail)
  go_wp2_with fail
  cases Y with
  | cons q Y' =>
    go_region_held3 (fun w' => w'.cell? ⟨V, 0, none⟩ = some (.pointer (some ⟨B, 0, none⟩)) ∧ w'.cell? ⟨V, 1, none⟩ = some (.pointer (some ⟨B2, 0, none⟩))) (first | exact ⟨f0, f1⟩ | exact ⟨S5.b0.1, S5.b1.1⟩) (first | (go_at_call 45; refine (either_a_int (S.out.drewN _).t.b.s _).mono ?_; rintro e w5 ⟨rfl, K, F⟩; have S5 := (S.out.drewN _).opB (Q' := Y') K F) | fail)
    have hlP := Lib.hid S.out.lenP; have hlQ := Lib.hid S.out.lenQ
    clear f0 f1 f2 f3 f4 f5 o0 o1 o2 S OV
    have g0 := S5.b3.1
    replace S5 := Lib.hid S5
    go_wp2_with fail
    refine (rfetch_n (E := E) (hd := q) (ok := true) (L := Y') S5.out.y (by have := hlQ.out; simp at this ⊢; omega) (Lib.hid rfl) (Lib.hid rfl) (Lib.hid rfl)).mono ?_
    rintro e w6 ⟨A6, c6, rfl, R6, F⟩
    have S6 := S5.out.below F
    have g2 := S6.b3.1; have g3 := S6.b3.2
    have S7 := Lib.hid (S6.putY R6)
    clear F S5 S6 R6 g0
    go_wp2
    go_ret
    exact ⟨_, _, _, _, rfl, S7.out⟩
  | nil =>
    cases X with
    | cons q X' =>
      go_region_held3 (fun w' => w'.cell? ⟨V, 0, none⟩ = some (.pointer (some ⟨B, 0, none⟩)) ∧ w'.cell? ⟨V, 1, none⟩ = some (.pointer (some ⟨B2, 0, none⟩))) (first | exact ⟨f0, f1⟩ | exact ⟨S5.b0.1, S5.b1.1⟩) (first | (go_at_call 45; refine (either_b_int (S.out.drewN _).t.b.s (S.out.drewN _).t.a.s).mono ?_; rintro e w5 ⟨rfl, K, F⟩; have S5 := (S.out.drewN _).opA (P' := X') K F) | fail)
      have hlP := Lib.hid S.out.lenP; have hlQ := Lib.hid S.out.lenQ
      clear f0 f1 f2 f3 f4 f5 o0 o1 o2 S OV
      have g0 := S5.b3.1
      replace S5 := Lib.hid S5
      go_wp2_with fail
      refine (rfetch_n (E := E) (hd := 0) (ok := false) (L := []) S5.out.y (by simp) (Lib.hid rfl) (Lib.hid rfl) (Lib.hid rfl)).mono ?_
      rintro e w6 ⟨A6, c6, rfl, R6, F⟩
      have S6 := Lib.hid (S5.out.below F)
      have g1 := S6.out.b2.1
      clear F S5 R6 g0
      go_wp2_with fail
      refine (rfetch_n (E := E) (hd := q) (ok := true) (L := X') S6.out.x (by have := hlP.out; simp at this ⊢; try omega) (Lib.hid rfl) (Lib.hid rfl) (Lib.hid rfl)).mono ?_
      rintro e w7 ⟨A7, c7, rfl, R7, F⟩
      have S7 := S6.out.below F
      have g2 := S7.b2.1; have g3 := S7.b2.2
      have S8 := Lib.hid (S7.putX R7)
      clear F S6 S7 R7 g1
      go_wp2
      go_ret
      exact ⟨_, _, _, _, rfl, S8.out⟩
    | nil =>
      go_region_held3 (fun w' => w'.cell? ⟨V, 0, none⟩ = some (.pointer (some ⟨B, 0, none⟩)) ∧ w'.cell? ⟨V, 1, none⟩ = some (.pointer (some ⟨B2, 0, none⟩))) (first | exact ⟨f0, f1⟩ | exact ⟨S5.b0.1, S5.b1.1⟩) (first | (go_at_call 45; refine (either_n_int (S.out.drewN _).t.b.s (S.out.drewN _).t.a.s).mono ?_; rintro e w5 ⟨rfl, F⟩; have F' := blU F; have S5 := S.out.below F') | fail)
      have hlP := Lib.hid S.out.lenP; have hlQ := Lib.hid S.out.lenQ
      clear f0 f1 f2 f3 f4 f5 o0 o1 o2 S OV
      have g0 := S5.b3.1
      replace S5 := Lib.hid S5
      go_wp2_with fail
      refine (rfetch_n (E := E) (hd := 0) (ok := false) (L := []) S5.out.y (by simp) (Lib.hid rfl) (Lib.hid rfl) (Lib.hid rfl)).mono ?_
      rintro e w6 ⟨A6, c6, rfl, R6, F⟩
      have S6 := Lib.hid (S5.out.below F)
      have g1 := S6.out.b2.1
      clear F S5 R6 g0
      go_wp2_with fail
      refine (rfetch_n (E := E) (hd := 0) (ok := false) (L := []) S6.out.x (by have := hlP.out; simp at this ⊢; try omega) (Lib.hid rfl) (Lib.hid rfl) (Lib.hid rfl)).mono ?_
      rintro e w7 ⟨A7, c7, rfl, R7, F⟩
      have S7 := S6.out.below F
      have g2 := S7.b2.1; have g3 := S7.b2.2
      have S8 := Lib.hid (S7.putX R7)
      clear F S6 S7 R7 g1
      go_wp2
      go_ret
      exact ⟨_, _, _, _, rfl, S8.out⟩

set_option maxHeartbeats 8000000 in
theorem does_4a {w0 w : World} {V B c B2 c2 n m E : Nat} {vx vy : Value} {X Y : List Int} (h : PlB w0 w V B c B2 c2 n m E vx vy X Y X Y) (y k : Int) (h0 : k ≠ 0) (h1 : k ≠ 1) (h2 : k ≠ 2) (h3 : k ≠ 3) :
    Calls Try.prog 38 #[.pointer (some ⟨V, 0, none⟩), .agg #[.int .i64 k, .int .i64 y, .bool false]] w fun e w' => ∃ vx' vy' X' Y', e = .returned (.bool true) ∧ PlB w0 w' V B c B2 c2 n m E vx' vy' X' Y' X' Y' := by
  have W0B := blA (Below.refl w.heap.size w) (.cells #[.int .i64 k, .int .i64 y, .bool false] 65)
  have S := Lib.hid (h.below W0B)
  have OV := Lib.hid (show OpV (w.alloc (.cells #[.int .i64 k, .int .i64 y, .bool false] 65)) w.heap.size k y false from ⟨Cel.new w _ _ 0 _ rfl, Cel.new w _ _ 1 _ rfl, Cel.new w _ _ 2 _ rfl⟩)
  have hM := Lib.hid (show V < w.heap.size ∧ c < w.heap.size ∧ c2 < w.heap.size ∧ E ≤ w.heap.size from ⟨h.b0.lt, h.t.a.s.lt.2, h.t.b.s.lt.2, h.e.2.2.2.2.2⟩)
  have hVM : V ≠ w.heap.size := by have := hM.out; omega
  clear h W0B
  have q0 : (k == 0) = false := by simpa using h0
  have q1 : (k == 1) = false := by simpa using h1
  have q2 : (k == 2) = false := by simpa using h2
  have q3 : (k == 3) = false := by simpa using h3
  clear h0 h1 h2 h3
  go_enter Try.func38, Try.ntmps38
  go_wp2_with fail
  generalize w.alloc (.cells #[.int .i64 k, .int .i64 y, .bool false] 65) = W at *
  generalize w.heap.size = M at *
  have f0 := S.out.b0.1; have f1 := S.out.b1.1; have f2 := S.out.b2.1; have f3 := S.out.b3.1; have f4 := S.out.b4.1; have f5 := S.out.b5.1
  have o0 := OV.out.1.1; have o1 := OV.out.2.1.1; have o2 := OV.out.2.2.1
  go_quiet (fail)
  clear f0 f1 f2 f3 f4 f5
  go_wp2
  go_ret
  exact ⟨_, _, _, _, rfl, by first | exact S.out.drewN _ | exact (S.out.drewN _).drewN _⟩

set_option maxHeartbeats 8000000 in
theorem does_4b {w0 w : World} {V B c B2 c2 n m E : Nat} {vx vy : Value} {X Y : List Int} (h : PlB w0 w V B c B2 c2 n m E vx vy X Y X Y) (y k : Int) (h0 : k ≠ 0) (h1 : k ≠ 1) (h2 : k ≠ 2) (h3 : k ≠ 3) :
    Calls Try.prog 38 #[.pointer (some ⟨V, 0, none⟩), .agg #[.int .i64 k, .int .i64 y, .bool true]] w fun e w' => ∃ vx' vy' X' Y', e = .returned (.bool true) ∧ PlB w0 w' V B c B2 c2 n m E vx' vy' X' Y' X' Y' := by
  have W0B := blA (Below.refl w.heap.size w) (.cells #[.int .i64 k, .int .i64 y, .bool true] 65)
  have S := Lib.hid (h.below W0B)
  have OV := Lib.hid (show OpV (w.alloc (.cells #[.int .i64 k, .int .i64 y, .bool true] 65)) w.heap.size k y true from ⟨Cel.new w _ _ 0 _ rfl, Cel.new w _ _ 1 _ rfl, Cel.new w _ _ 2 _ rfl⟩)
  have hM := Lib.hid (show V < w.heap.size ∧ c < w.heap.size ∧ c2 < w.heap.size ∧ E ≤ w.heap.size from ⟨h.b0.lt, h.t.a.s.lt.2, h.t.b.s.lt.2, h.e.2.2.2.2.2⟩)
  have hVM : V ≠ w.heap.size := by have := hM.out; omega
  clear h W0B
  have q0 : (k == 0) = false := by simpa using h0
  have q1 : (k == 1) = false := by simpa using h1
  have q2 : (k == 2) = false := by simpa using h2
  have q3 : (k == 3) = false := by simpa using h3
  clear h0 h1 h2 h3
  go_enter Try.func38, Try.ntmps38
  go_wp2_with fail
  generalize w.alloc (.cells #[.int .i64 k, .int .i64 y, .bool true] 65) = W at *
  generalize w.heap.size = M at *
  have f0 := S.out.b0.1; have f1 := S.out.b1.1; have f2 := S.out.b2.1; have f3 := S.out.b3.1; have f4 := S.out.b4.1; have f5 := S.out.b5.1
  have o0 := OV.out.1.1; have o1 := OV.out.2.1.1; have o2 := OV.out.2.2.1
  go_quiet (fail)
  go_wp2_with fail
  go_quiet (fail)
  clear f0 f1 f2 f3 f4 f5
  go_wp2
  go_ret
  exact ⟨_, _, _, _, rfl, by first | exact S.out.drewN _ | exact (S.out.drewN _).drewN _⟩
end Go.Proofs.Ytkpiphihmmhhpaa
