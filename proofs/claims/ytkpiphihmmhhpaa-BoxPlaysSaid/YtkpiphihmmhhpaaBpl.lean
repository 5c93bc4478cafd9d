/- BoxPlays. -/
import Derived.Test.YtkpiphihmmhhpaaBdo
import Derived.Test.YtkpiphihmmhhpaaRow
import Derived.Test.YtkpiphihmmhhpaaSeq
namespace Go.Proofs.Ytkpiphihmmhhpaa
open Go.RowKit
set_option linter.unusedVariables false
set_option linter.unusedSimpArgs false
set_option maxRecDepth 100000

structure Ob where
  kind : Int
  v : Int
  other : Bool
deriving Inhabited
def Ob.cells (z : Ob) : List Value := [.int .i64 z.kind, .int .i64 z.v, .bool z.other]
def Ob.good (z : Ob) : Prop := (Lit.int .i64 z.kind).wf = true ∧ (Lit.int .i64 z.v).wf = true ∧ True
def Ob.val (z : Ob) : Value := .agg #[.int .i64 z.kind, .int .i64 z.v, .bool z.other]
theorem el_Ob {H : Type} {enc : TypeId × Value → H} {w : World} : ∀ n cs x, DataW.trod enc Try.prog w 0 (fun _ => true) true n 65 cs = some x → ∃ z : Ob, cs = z.cells ∧ z.good := by
  intro n cs x h
  have hl := (struct_cells Try.underlying65 h).1
  rw [show Try.prog.cellsOf 65 = 3 by kernel_rfl] at hl
  obtain ⟨v0, v1, v2, rfl⟩ : ∃ v0 v1 v2 : Value, cs = [v0, v1, v2] := by
    match cs, hl with
    | [v0, v1, v2], _ => exact ⟨v0, v1, v2, rfl⟩
  obtain ⟨-, n, f⟩ := struct_cells Try.underlying65 h
  obtain ⟨y_0, h_0⟩ := f 0 _ rfl
  replace h_0 : DataW.trod enc Try.prog w 0 (fun _ => true) true n 3 [v0] = some y_0 := h_0
  obtain ⟨a0, e0, g0⟩ := (el_int Try.underlying3) _ _ _ h_0
  obtain rfl : v0 = .int .i64 a0 := by simpa using e0
  obtain ⟨y_1, h_1⟩ := f 1 _ rfl
  replace h_1 : DataW.trod enc Try.prog w 0 (fun _ => true) true n 3 [v1] = some y_1 := h_1
  obtain ⟨a1, e1, g1⟩ := (el_int Try.underlying3) _ _ _ h_1
  obtain rfl : v1 = .int .i64 a1 := by simpa using e1
  obtain ⟨y_2, h_2⟩ := f 2 _ rfl
  replace h_2 : DataW.trod enc Try.prog w 0 (fun _ => true) true n 4 [v2] = some y_2 := h_2
  obtain ⟨a2, e2, g2⟩ := (el_bool Try.underlying4) _ _ _ h_2
  obtain rfl : v2 = .bool a2 := by simpa using e2
  exact ⟨⟨a0, a1, a2⟩, rfl, ⟨g0, g1, g2⟩⟩

theorem RowAt.ob {w : World} {A : Option Addr} {xs : List Ob} (h : RowAt Ob.cells 3 w A xs) {i : Nat} (hi : i < xs.length) : ∃ b off, A = some ⟨b, off, none⟩ ∧ b < w.heap.size ∧ w.cell? ⟨b, off + i * 3, none⟩ = some (.int .i64 xs[i].kind) ∧ w.cell? ⟨b, off + i * 3 + 1, none⟩ = some (.int .i64 xs[i].v) ∧ w.cell? ⟨b, off + i * 3 + 2, none⟩ = some (.bool xs[i].other) := by
  obtain ⟨b, off, e, hlt, hc⟩ := h i hi
  exact ⟨b, off, e, hlt, hc 0 _ rfl, hc 1 _ rfl, hc 2 _ rfl⟩

section
variable {w0 w : World} {V B c B2 c2 n m E : Nat} {vx vy : Value} {X Y : List Int}
/-- Two boxes with what the document's rows say. -/
def PlX (w0 w : World) (V B c B2 c2 n m E : Nat) (Ax : Option Addr) (nx cx : Nat) (Ay : Option Addr) (ny cy : Nat) (X Y : List Int) : Prop := nx = X.length ∧ ny = Y.length ∧ PlB w0 w V B c B2 c2 n m E (.slice Ax nx cx) (.slice Ay ny cy) X Y X Y
variable {Ax Ay : Option Addr} {nx cx ny cy : Nat}
theorem PlB.plx (h : PlB w0 w V B c B2 c2 n m E vx vy X Y X Y) : ∃ Ax nx cx Ay ny cy, vx = .slice Ax nx cx ∧ vy = .slice Ay ny cy ∧ PlX w0 w V B c B2 c2 n m E Ax nx cx Ay ny cy X Y := by
  obtain ⟨Ax, cx, rfl, -⟩ := h.x
  obtain ⟨Ay, cy, rfl, -⟩ := h.y
  exact ⟨Ax, _, cx, Ay, _, cy, rfl, rfl, rfl, rfl, h⟩
theorem PlX.below {w2 : World} (h : PlX w0 w V B c B2 c2 n m E Ax nx cx Ay ny cy X Y) (F : Below w.heap.size w w2) : PlX w0 w2 V B c B2 c2 n m E Ax nx cx Ay ny cy X Y := ⟨h.1, h.2.1, h.2.2.below F⟩
theorem PlX.drewN (h : PlX w0 w V B c B2 c2 n m E Ax nx cx Ay ny cy X Y) (k : Nat) : PlX w0 (w.drewN k) V B c B2 c2 n m E Ax nx cx Ay ny cy X Y := ⟨h.1, h.2.1, h.2.2.drewN k⟩
theorem does_c (h : PlX w0 w V B c B2 c2 n m E Ax nx cx Ay ny cy X Y) (k y : Int) (o : Bool) :
    Calls Try.prog 38 #[.pointer (some ⟨V, 0, none⟩), .agg #[.int .i64 k, .int .i64 y, .bool o]] w fun e w' => ∃ Ax nx cx Ay ny cy X Y, e = .returned (.bool true) ∧ PlX w0 w' V B c B2 c2 n m E Ax nx cx Ay ny cy X Y := by
  have fin : ∀ e w', (∃ vx' vy' X' Y', e = Ending.returned (.bool true) ∧ PlB w0 w' V B c B2 c2 n m E vx' vy' X' Y' X' Y') → ∃ Ax nx cx Ay ny cy X Y, e = Ending.returned (.bool true) ∧ PlX w0 w' V B c B2 c2 n m E Ax nx cx Ay ny cy X Y := by
    rintro e w' ⟨vx', vy', X', Y', rfl, h⟩
    obtain ⟨Ax, nx, cx, Ay, ny, cy, rfl, rfl, h2⟩ := h.plx
    exact ⟨Ax, nx, cx, Ay, ny, cy, X', Y', rfl, h2⟩
  by_cases h0 : k = 0
  · subst h0; cases o
    · exact (does_0a h.2.2 y).mono fin
    · exact (does_0b h.2.2 y).mono fin
  by_cases h1 : k = 1
  · subst h1; cases o
    · exact (does_1a h.2.2 y).mono fin
    · exact (does_1b h.2.2 y).mono fin
  by_cases h2 : k = 2
  · subst h2; cases o
    · exact (does_2a h.2.2 y).mono fin
    · exact (does_2b h.2.2 y).mono fin
  by_cases h3 : k = 3
  · subst h3; cases o
    · exact (does_3a h.2.2 y).mono fin
    · exact (does_3b h.2.2 y).mono fin
  cases o
  · exact (does_4a h.2.2 y k h0 h1 h2 h3).mono fin
  · exact (does_4b h.2.2 y k h0 h1 h2 h3).mono fin
theorem allA_p (h : PlX w0 w V B c B2 c2 n m E Ax nx cx Ay ny cy X Y) :
    Calls Try.prog 22 #[.pointer (some ⟨B, 0, none⟩)] w fun e w' => ∃ A k, e = .returned (.slice A nx k) ∧ RowAt (fun z : Int => [.int .i64 z]) 1 w' A X ∧ PlX w0 w' V B c B2 c2 n m E Ax nx cx Ay ny cy X Y ∧ FrB (fun b => b = c) w w' := by
  refine (all_int h.2.2.t.a.s).mono ?_
  rintro e w' ⟨v, rfl, O, K, F⟩
  obtain ⟨A, k, rfl⟩ := O.slice
  exact ⟨A, k, by rw [h.1], (O.row).1, ⟨h.1, h.2.1, h.2.2.opA K F⟩, F⟩
theorem allB_p (h : PlX w0 w V B c B2 c2 n m E Ax nx cx Ay ny cy X Y) :
    Calls Try.prog 22 #[.pointer (some ⟨B2, 0, none⟩)] w fun e w' => ∃ A k, e = .returned (.slice A ny k) ∧ RowAt (fun z : Int => [.int .i64 z]) 1 w' A Y ∧ PlX w0 w' V B c B2 c2 n m E Ax nx cx Ay ny cy X Y ∧ FrB (fun b => b = c2) w w' := by
  refine (all_int h.2.2.t.b.s).mono ?_
  rintro e w' ⟨v, rfl, O, K, F⟩
  obtain ⟨A, k, rfl⟩ := O.slice
  exact ⟨A, k, by rw [h.2.1], (O.row).1, ⟨h.1, h.2.1, h.2.2.opB K F⟩, F⟩
theorem sameX_p {A : Option Addr} {k : Nat} (h : PlX w0 w V B c B2 c2 n m E Ax nx cx Ay ny cy X Y) (hA : RowAt (fun z : Int => [.int .i64 z]) 1 w A X) :
    Calls Try.prog 23 #[.slice A nx k, .slice Ax nx cx] w fun e w' => e = .returned (.bool true) ∧ Below w.heap.size w w' := by
  obtain ⟨rfl, rfl, H⟩ := h
  obtain ⟨A1, c1, e, -, hR, -⟩ := H.x
  injection e with e1 e2 e3; subst e1
  have := same_c (ca := k) (cb := cx) hA hR (by have := H.lenP; omega) (by have := H.lenP; omega)
  rwa [decide_eq_true rfl] at this
theorem sameY_p {A : Option Addr} {k : Nat} (h : PlX w0 w V B c B2 c2 n m E Ax nx cx Ay ny cy X Y) (hA : RowAt (fun z : Int => [.int .i64 z]) 1 w A Y) :
    Calls Try.prog 23 #[.slice A ny k, .slice Ay ny cy] w fun e w' => e = .returned (.bool true) ∧ Below w.heap.size w w' := by
  obtain ⟨rfl, rfl, H⟩ := h
  obtain ⟨A1, c1, e, -, hR, -⟩ := H.y
  injection e with e1 e2 e3; subst e1
  have := same_c (ca := k) (cb := cy) hA hR (by have := H.lenQ; omega) (by have := H.lenQ; omega)
  rwa [decide_eq_true rfl] at this
theorem lenA_p (h : PlX w0 w V B c B2 c2 n m E Ax nx cx Ay ny cy X Y) : Calls Try.prog 24 #[.pointer (some ⟨B, 0, none⟩)] w fun e w' => e = .returned (.int .i64 nx) ∧ w = w' := by
  have := len_int h.2.2.t.a.s
  rwa [List.length_map, ← h.1] at this
theorem lenB_p (h : PlX w0 w V B c B2 c2 n m E Ax nx cx Ay ny cy X Y) : Calls Try.prog 24 #[.pointer (some ⟨B2, 0, none⟩)] w fun e w' => e = .returned (.int .i64 ny) ∧ w = w' := by
  have := len_int h.2.2.t.b.s
  rwa [List.length_map, ← h.2.1] at this
theorem roomA_p (h : PlX w0 w V B c B2 c2 n m E Ax nx cx Ay ny cy X Y) : Calls Try.prog 39 #[.pointer (some ⟨B, 0, none⟩)] w fun e w' => e = .returned (.int .i64 n) ∧ w = w' := room_int h.2.2.t.a.s
theorem roomB_p (h : PlX w0 w V B c B2 c2 n m E Ax nx cx Ay ny cy X Y) : Calls Try.prog 39 #[.pointer (some ⟨B2, 0, none⟩)] w fun e w' => e = .returned (.int .i64 m) ∧ w = w' := room_int h.2.2.t.b.s
end

set_option maxHeartbeats 16000000 in
theorem plays10_walk (a b : Int) (A0 : Option Addr) (cx0 : Nat) (xs : List Ob) (w : World) (hr : RowAt Ob.cells 3 w A0 xs) :
    Calls Try.prog 12 #[.int .i64 a, .int .i64 b, .slice A0 xs.length cx0] w fun e w' => e = .returned (.bool true) ∧ Below w.heap.size w w' := by
  have HR := Lib.hid hr
  obtain ⟨N, hN⟩ : ∃ N, N = xs.length := ⟨_, rfl⟩
  rw [← hN]
  clear hr
  by_cases hbig : 40 < N ∨ 100 < a ∨ 100 < b
  · have three : (decide ((40 : Int) < (N : Int)) = true ∧ decide (40 < N) = true) ∨ ((decide ((40 : Int) < (N : Int)) = false ∧ decide (40 < N) = false) ∧ decide (100 < a) = true) ∨ ((decide ((40 : Int) < (N : Int)) = false ∧ decide (40 < N) = false) ∧ decide (100 < a) = false ∧ decide (100 < b) = true) := by
      by_cases h1 : 40 < N
      · exact .inl ⟨decide_eq_true (by omega), decide_eq_true h1⟩
      by_cases h2 : 100 < a
      · exact .inr (.inl ⟨⟨decide_eq_false (by omega), decide_eq_false h1⟩, decide_eq_true h2⟩)
      · exact .inr (.inr ⟨⟨decide_eq_false (by omega), decide_eq_false h1⟩, decide_eq_false h2, decide_eq_true (by omega)⟩)
    replace hN := Lib.hid hN
    clear hbig
    go_enter Try.func12, Try.ntmps12
    rcases three with ⟨d1, d2⟩ | ⟨⟨d1, d2⟩, d3⟩ | ⟨⟨d1, d2⟩, d3, d4⟩
    all_goals
      go_wp2_with fail
      refine (alive10_c w).mono ?_
      rintro e w1 ⟨rfl, F⟩
      replace F := Lib.hid F
      go_wp2
      go_ret
      exact ⟨rfl, F.out⟩
  obtain ⟨d1, d2⟩ : decide ((40 : Int) < (N : Int)) = false ∧ decide (40 < N) = false := ⟨decide_eq_false (by omega), decide_eq_false (by omega)⟩
  have d3 : decide (100 < a) = false := decide_eq_false (by omega)
  have d4 : decide (100 < b) = false := decide_eq_false (by omega)
  have hN40 : Hid (N ≤ 40) := Lib.hid (by omega)
  obtain ⟨n, hn⟩ : ∃ n, n = capN a := ⟨_, rfl⟩
  obtain ⟨m, hm⟩ : ∃ m, m = capN b := ⟨_, rfl⟩
  replace hN := Lib.hid hN; replace hn := Lib.hid hn; replace hm := Lib.hid hm
  clear hbig
  go_enter Try.func12, Try.ntmps12
  go_wp2_with fail
  refine (alive10_c w).mono ?_
  rintro e w1 ⟨rfl, F⟩
  have F1 := Lib.hid F
  clear F
  go_wp2_with fail
  refine (new_int w1 a (cap := n) hn.out).mono ?_
  rintro e w2 ⟨B, c, rfl, S, l1, l2, F⟩
  have S1 := Lib.hid (show OneB w w2 B c n [] from ⟨S, by have := F1.out.size; omega, F1.out.trans (F.mono F1.out.size)⟩)
  clear S l1 l2 F
  go_wp2_with fail
  refine (new_int w2 b (cap := m) hm.out).mono ?_
  rintro e w3 ⟨B2, c2, rfl, S, l1, l2, F⟩
  have S2 := Lib.hid (TwoB.new S1.out S l1 l2 F)
  clear S l1 l2 F S1
  go_wp2_with fail
  refine (rroom_c w3 a).mono ?_
  rintro e w4 ⟨rfl, rfl⟩
  rw [← hn.out]
  go_wp2_with fail
  refine (rroom_c w3 b).mono ?_
  rintro e w4 ⟨rfl, rfl⟩
  rw [← hm.out]
  have S0 : Hid (PlX w (w3.alloc (.cells #[.pointer (some ⟨B, 0, none⟩), .pointer (some ⟨B2, 0, none⟩), .slice none 0 0, .slice none 0 0, .int .i64 n, .int .i64 m] 63)) w3.heap.size B c B2 c2 n m (w3.heap.size + 1) none 0 0 none 0 0 [] []) := Lib.hid (by
    have k1 := S2.out.a.s.lt; have k2 := S2.out.b.s.lt; have k3 := S2.out.a.b.size
    refine ⟨rfl, rfl, S2.out.below (blA (Below.refl _ _) _), Cel.new w3 _ _ 0 _ rfl, Cel.new w3 _ _ 1 _ rfl, Cel.new w3 _ _ 2 _ rfl, Cel.new w3 _ _ 3 _ rfl, Cel.new w3 _ _ 4 _ rfl, Cel.new w3 _ _ 5 _ rfl, ⟨none, 0, rfl, Nat.le_refl _, fun i hi => absurd hi (by simp), fun a h => by cases h⟩, ⟨none, 0, rfl, Nat.le_refl _, fun i hi => absurd hi (by simp), fun a h => by cases h⟩, by simp; omega, by omega⟩)
  clear S2 F1
  go_wp2
  generalize w3.alloc (.cells #[.pointer (some ⟨B, 0, none⟩), .pointer (some ⟨B2, 0, none⟩), .slice none 0 0, .slice none 0 0, .int .i64 n, .int .i64 m] 63) = W3 at *
  generalize w3.heap.size = V at *
  go_loopw [35] (fun ii wr => ∃ (i : Nat) (Ax : Option Addr) (nx cx : Nat) (Ay : Option Addr) (ny cy : Nat) (X Y : List Int), ii = .int .i64 i ∧ Hid (PlX w wr V B c B2 c2 n m (V + 1) Ax nx cx Ay ny cy X Y) ∧ Hid (i ≤ N)) (fun ii _ => N - (intOf ii).toNat)
  case atStart => exact ⟨0, _, _, _, _, _, _, _, _, rfl, S0, Lib.hid (Nat.zero_le _)⟩
  case round =>
    clear S0
    obtain ⟨i, Ax, nx, cx, Ay, ny, cy, X, Y, rfl, S, hi⟩ := hrel
    by_cases hlt : i < N
    · have hi41 : i < 41 := by have := hN40.out; omega
      obtain ⟨bb, off, rfl, hbl, c0, c1, c2'⟩ := HR.out.ob (i := i) (by have := hN.out; omega)
      have Bl := S.out.2.2.t.a.b
      have z0 := (Bl.cell (p := ⟨bb, off + i * 3, none⟩) hbl).trans c0
      have z1 := (Bl.cell (p := ⟨bb, off + i * 3 + 1, none⟩) hbl).trans c1
      have z2 := (Bl.cell (p := ⟨bb, off + i * 3 + 2, none⟩) hbl).trans c2'
      obtain ⟨k, hk⟩ : ∃ k, k = (xs[i]'(by have := hN.out; omega)).kind := ⟨_, rfl⟩
      obtain ⟨y, hy⟩ : ∃ y, y = (xs[i]'(by have := hN.out; omega)).v := ⟨_, rfl⟩
      obtain ⟨oth, ho⟩ : ∃ oth, oth = (xs[i]'(by have := hN.out; omega)).other := ⟨_, rfl⟩
      rw [← hk] at z0; rw [← hy] at z1; rw [← ho] at z2
      have hltH := Lib.hid hlt
      have BA := blA (Below.refl wr.heap.size wr) (.cells #[.int .i64 k, .int .i64 y, .bool oth] 65)
      have y0 := Lib.hid (Cel.new wr #[.int .i64 k, .int .i64 y, .bool oth] 65 0 _ rfl)
      have y1 := Lib.hid (Cel.new wr #[.int .i64 k, .int .i64 y, .bool oth] 65 1 _ rfl)
      have y2 := Lib.hid (Cel.new wr #[.int .i64 k, .int .i64 y, .bool oth] 65 2 _ rfl)
      replace S := Lib.hid (S.out.below BA)
      clear c0 c1 c2' hbl hk hy ho BA Bl
      go_wp2_with fail
      clear z0 z1 z2
      generalize wr.alloc (.cells #[.int .i64 k, .int .i64 y, .bool oth] 65) = W at *
      generalize wr.heap.size = Z at *
      have z0 := y0.out.1; have z1 := y1.out.1; have z2 := y2.out.1
      clear y0 y1 y2
      refine seq_start [(0, true), (1, false), (2, false), (3, true), (4, true), (5, true), (6, true), (7, true), (8, true), (10, true), (11, true), (12, true), (13, true), (9, false), (14, false), (15, true), (16, true), (17, true), (18, true), (19, true), (20, true), (21, true), (23, true), (24, true), (25, true), (26, true), (22, false), (27, false), (28, true), (29, true)] (fun _ => True) (by kernel_rfl) (by kernel_rfl) rfl (by kernel_rfl) trivial ?_
      refine seq_read rfl (by first | rfl | (go_simp; done)) (fun w' hw => by go_simp; with_reducible rfl) ?_
      try simp only [Act.put, List.setIfInBounds_toArray, List.set_cons_zero, List.set_cons_succ]
      refine seq_call rfl (fun K hK => ?_)
      go_simp
      refine hK.out _ _ trivial ?_
      clear hK K
      try simp only [Act.put, List.setIfInBounds_toArray, List.set_cons_zero, List.set_cons_succ]
      refine seq_call rfl (fun K hK => ?_)
      go_simp
      refine (does_c (S.out.drewN 1) k y oth).mono ?_
      rintro e w5 ⟨Ax, nx, cx, Ay, ny, cy, X, Y, rfl, S5⟩
      refine hK.out _ _ trivial ?_
      clear hK K S
      have S := Lib.hid S5
      clear S5 z0 z1 z2
      try simp only [Act.put, List.setIfInBounds_toArray, List.set_cons_zero, List.set_cons_succ]
      refine seq_up (fun w' => w'.cell? ⟨V, 0, none⟩ = some (.pointer (some ⟨B, 0, none⟩)) ∧ w'.cell? ⟨V, 1, none⟩ = some (.pointer (some ⟨B2, 0, none⟩)) ∧ w'.cell? ⟨V, 2, none⟩ = some (.slice Ax nx cx) ∧ w'.cell? ⟨V, 3, none⟩ = some (.slice Ay ny cy)) (fun _ _ => trivial) ⟨S.out.2.2.b0.1, S.out.2.2.b1.1, S.out.2.2.b2.1, S.out.2.2.b3.1⟩ ?_
      refine seq_read rfl (by first | rfl | (go_simp; done)) (fun w' hw => by obtain ⟨s0, s1, s2, s3⟩ := hw; go_simp; with_reducible rfl) ?_
      try simp only [Act.put, List.setIfInBounds_toArray, List.set_cons_zero, List.set_cons_succ]
      refine seq_read rfl (by first | rfl | (go_simp; done)) (fun w' hw => by obtain ⟨s0, s1, s2, s3⟩ := hw; go_simp; with_reducible rfl) ?_
      try simp only [Act.put, List.setIfInBounds_toArray, List.set_cons_zero, List.set_cons_succ]
      refine seq_read rfl (by first | rfl | (go_simp; done)) (fun w' hw => by obtain ⟨s0, s1, s2, s3⟩ := hw; go_simp; with_reducible rfl) ?_
      try simp only [Act.put, List.setIfInBounds_toArray, List.set_cons_zero, List.set_cons_succ]
      refine seq_read rfl (by first | rfl | (go_simp; done)) (fun w' hw => by obtain ⟨s0, s1, s2, s3⟩ := hw; go_simp; with_reducible rfl) ?_
      try simp only [Act.put, List.setIfInBounds_toArray, List.set_cons_zero, List.set_cons_succ]
      refine seq_read rfl (by first | rfl | (go_simp; done)) (fun w' hw => by obtain ⟨s0, s1, s2, s3⟩ := hw; go_simp; with_reducible rfl) ?_
      try simp only [Act.put, List.setIfInBounds_toArray, List.set_cons_zero, List.set_cons_succ]
      refine seq_read rfl (by first | rfl | (go_simp; done)) (fun w' hw => by obtain ⟨s0, s1, s2, s3⟩ := hw; go_simp; with_reducible rfl) ?_
      try simp only [Act.put, List.setIfInBounds_toArray, List.set_cons_zero, List.set_cons_succ]
      refine seq_read rfl (by first | rfl | (go_simp; done)) (fun w' hw => by obtain ⟨s0, s1, s2, s3⟩ := hw; go_simp; with_reducible rfl) ?_
      try simp only [Act.put, List.setIfInBounds_toArray, List.set_cons_zero, List.set_cons_succ]
      refine seq_read rfl (by first | rfl | (go_simp; done)) (fun w' hw => by obtain ⟨s0, s1, s2, s3⟩ := hw; go_simp; with_reducible rfl) ?_
      try simp only [Act.put, List.setIfInBounds_toArray, List.set_cons_zero, List.set_cons_succ]
      refine seq_read rfl (by first | rfl | (go_simp; done)) (fun w' hw => by obtain ⟨s0, s1, s2, s3⟩ := hw; go_simp; with_reducible rfl) ?_
      try simp only [Act.put, List.setIfInBounds_toArray, List.set_cons_zero, List.set_cons_succ]
      refine seq_read rfl (by first | rfl | (go_simp; done)) (fun w' hw => by obtain ⟨s0, s1, s2, s3⟩ := hw; go_simp; with_reducible rfl) ?_
      try simp only [Act.put, List.setIfInBounds_toArray, List.set_cons_zero, List.set_cons_succ]
      refine seq_call rfl (fun K hK => ?_)
      go_simp
      refine (allA_p S.out).mono ?_
      rintro e w6 ⟨A6, c6, rfl, hA, S6, F⟩
      replace S := Lib.hid S6
      clear S6 F
      refine hK.out _ _ ⟨S.out.2.2.b0.1, S.out.2.2.b1.1, S.out.2.2.b2.1, S.out.2.2.b3.1⟩ ?_
      clear hK K
      try simp only [Act.put, List.setIfInBounds_toArray, List.set_cons_zero, List.set_cons_succ]
      refine seq_call rfl (fun K hK => ?_)
      go_simp
      refine (sameX_p S.out hA).mono ?_
      rintro e w6 ⟨rfl, F⟩
      replace S := Lib.hid (S.out.below F)
      clear F hA
      refine hK.out _ _ ⟨S.out.2.2.b0.1, S.out.2.2.b1.1, S.out.2.2.b2.1, S.out.2.2.b3.1⟩ ?_
      clear hK K
      try simp only [Act.put, List.setIfInBounds_toArray, List.set_cons_zero, List.set_cons_succ]
      refine seq_read rfl (by first | rfl | (go_simp; done)) (fun w' hw => by obtain ⟨s0, s1, s2, s3⟩ := hw; go_simp; with_reducible rfl) ?_
      try simp only [Act.put, List.setIfInBounds_toArray, List.set_cons_zero, List.set_cons_succ]
      refine seq_read rfl (by first | rfl | (go_simp; done)) (fun w' hw => by obtain ⟨s0, s1, s2, s3⟩ := hw; go_simp; with_reducible rfl) ?_
      try simp only [Act.put, List.setIfInBounds_toArray, List.set_cons_zero, List.set_cons_succ]
      refine seq_read rfl (by first | rfl | (go_simp; done)) (fun w' hw => by obtain ⟨s0, s1, s2, s3⟩ := hw; go_simp; with_reducible rfl) ?_
      try simp only [Act.put, List.setIfInBounds_toArray, List.set_cons_zero, List.set_cons_succ]
      refine seq_read rfl (by first | rfl | (go_simp; done)) (fun w' hw => by obtain ⟨s0, s1, s2, s3⟩ := hw; go_simp; with_reducible rfl) ?_
      try simp only [Act.put, List.setIfInBounds_toArray, List.set_cons_zero, List.set_cons_succ]
      refine seq_read rfl (by first | rfl | (go_simp; done)) (fun w' hw => by obtain ⟨s0, s1, s2, s3⟩ := hw; go_simp; with_reducible rfl) ?_
      try simp only [Act.put, List.setIfInBounds_toArray, List.set_cons_zero, List.set_cons_succ]
      refine seq_read rfl (by first | rfl | (go_simp; done)) (fun w' hw => by obtain ⟨s0, s1, s2, s3⟩ := hw; go_simp; with_reducible rfl) ?_
      try simp only [Act.put, List.setIfInBounds_toArray, List.set_cons_zero, List.set_cons_succ]
      refine seq_read rfl (by first | rfl | (go_simp; done)) (fun w' hw => by obtain ⟨s0, s1, s2, s3⟩ := hw; go_simp; with_reducible rfl) ?_
      try simp only [Act.put, List.setIfInBounds_toArray, List.set_cons_zero, List.set_cons_succ]
      refine seq_read rfl (by first | rfl | (go_simp; done)) (fun w' hw => by obtain ⟨s0, s1, s2, s3⟩ := hw; go_simp; with_reducible rfl) ?_
      try simp only [Act.put, List.setIfInBounds_toArray, List.set_cons_zero, List.set_cons_succ]
      refine seq_read rfl (by first | rfl | (go_simp; done)) (fun w' hw => by obtain ⟨s0, s1, s2, s3⟩ := hw; go_simp; with_reducible rfl) ?_
      try simp only [Act.put, List.setIfInBounds_toArray, List.set_cons_zero, List.set_cons_succ]
      refine seq_read rfl (by first | rfl | (go_simp; done)) (fun w' hw => by obtain ⟨s0, s1, s2, s3⟩ := hw; go_simp; with_reducible rfl) ?_
      try simp only [Act.put, List.setIfInBounds_toArray, List.set_cons_zero, List.set_cons_succ]
      refine seq_read rfl (by first | rfl | (go_simp; done)) (fun w' hw => by obtain ⟨s0, s1, s2, s3⟩ := hw; go_simp; with_reducible rfl) ?_
      try simp only [Act.put, List.setIfInBounds_toArray, List.set_cons_zero, List.set_cons_succ]
      refine seq_call rfl (fun K hK => ?_)
      go_simp
      refine (allB_p S.out).mono ?_
      rintro e w6 ⟨A7, c7, rfl, hB, S6, F⟩
      replace S := Lib.hid S6
      clear S6 F
      refine hK.out _ _ ⟨S.out.2.2.b0.1, S.out.2.2.b1.1, S.out.2.2.b2.1, S.out.2.2.b3.1⟩ ?_
      clear hK K
      try simp only [Act.put, List.setIfInBounds_toArray, List.set_cons_zero, List.set_cons_succ]
      refine seq_call rfl (fun K hK => ?_)
      go_simp
      refine (sameY_p S.out hB).mono ?_
      rintro e w6 ⟨rfl, F⟩
      replace S := Lib.hid (S.out.below F)
      clear F hB
      refine hK.out _ _ ⟨S.out.2.2.b0.1, S.out.2.2.b1.1, S.out.2.2.b2.1, S.out.2.2.b3.1⟩ ?_
      clear hK K
      try simp only [Act.put, List.setIfInBounds_toArray, List.set_cons_zero, List.set_cons_succ]
      refine seq_read rfl (by first | rfl | (go_simp; done)) (fun w' hw => by obtain ⟨s0, s1, s2, s3⟩ := hw; go_simp; with_reducible rfl) ?_
      try simp only [Act.put, List.setIfInBounds_toArray, List.set_cons_zero, List.set_cons_succ]
      refine seq_read rfl (by first | rfl | (go_simp; done)) (fun w' hw => by obtain ⟨s0, s1, s2, s3⟩ := hw; go_simp; with_reducible rfl) ?_
      try simp only [Act.put, List.setIfInBounds_toArray, List.set_cons_zero, List.set_cons_succ]
      refine seq_done ?_
      go_wp2
      go_roundw
      case rel => exact ⟨i + 1, _, _, _, _, _, _, _, _, by go_num, S, Lib.hid hltH.out⟩
      case measure => have := hltH.out; simp [intOf]; omega
    · obtain rfl : i = N := by have := hi.out; omega
      have hge : ¬ ((i : Int) < (i : Int)) := by omega
      have f0 := S.out.2.2.b0.1; have f1 := S.out.2.2.b1.1; have f2 := S.out.2.2.b2.1; have f3 := S.out.2.2.b3.1
      have f4 := S.out.2.2.b4.1; have f5 := S.out.2.2.b5.1
      go_wp2_with fail
      go_quiet (first
        | (go_at_call 24; refine Calls.quiet_of_same ((lenA_p (S.out.drewN _)).mono fun _ _ h => ⟨h.1, h.2.symm⟩))
        | (go_at_call 24; refine Calls.quiet_of_same ((lenB_p (S.out.drewN _)).mono fun _ _ h => ⟨h.1, h.2.symm⟩))
        | (go_at_call 39; refine Calls.quiet_of_same ((roomA_p (S.out.drewN _)).mono fun _ _ h => ⟨h.1, h.2.symm⟩))
        | (go_at_call 39; refine Calls.quiet_of_same ((roomB_p (S.out.drewN _)).mono fun _ _ h => ⟨h.1, h.2.symm⟩)))
      go_wp2
      go_ret
      exact ⟨rfl, (S.out.drewN _).2.2.t.a.b⟩
end Go.Proofs.Ytkpiphihmmhhpaa
