/- The document's tables: with a place otherwise. -/
import Derived.Test.YtaflekpfpdnbcaaDoorRf5
namespace Go.Proofs.YtaflekpfpdnbcaaDoor
open Go.RowKit
set_option linter.unusedVariables false
set_option linter.unusedSimpArgs false
set_option linter.unusedSectionVars false
set_option maxRecDepth 100000

theorem own_set5 {w : World} {base g n c k : Nat} {P : List Pc} (O : OwnE pcE w base (.slice (some ⟨g, 0, none⟩) n c) P) (hk : k < P.length) (x : Pc) :
    OwnE pcE (((((w.setCell ⟨g, k * 5, none⟩ (.int .i64 x.gen)).setCell ⟨g, k * 5 + 1, none⟩ (.bool x.is)).setCell ⟨g, k * 5 + 2, none⟩ (.int .i64 x.kind)).setCell ⟨g, k * 5 + 3, none⟩ (.int .i64 x.index)).setCell ⟨g, k * 5 + 4, none⟩ (.int .i64 x.rights)) base (.slice (some ⟨g, 0, none⟩) n c) (P.set k x) := by
  obtain ⟨xg, xb, xk, xi, xr⟩ := x
  have O1 := O.set (i := k) (j := 0) (u := .int .i64 xg) (y := ⟨xg, P[k].is, P[k].kind, P[k].index, P[k].rights⟩) hk (by decide) rfl
  have O2 := O1.set (i := k) (j := 1) (u := .bool xb) (y := ⟨xg, xb, P[k].kind, P[k].index, P[k].rights⟩) (by rw [List.length_set]; exact hk) (by decide) (by rw [List.getElem_set_self]; rfl)
  have O3 := O2.set (i := k) (j := 2) (u := .int .i64 xk) (y := ⟨xg, xb, xk, P[k].index, P[k].rights⟩) (by rw [List.length_set, List.length_set]; exact hk) (by decide) (by rw [List.getElem_set_self]; rfl)
  have O4 := O3.set (i := k) (j := 3) (u := .int .i64 xi) (y := ⟨xg, xb, xk, xi, P[k].rights⟩) (by rw [List.length_set, List.length_set, List.length_set]; exact hk) (by decide) (by rw [List.getElem_set_self]; rfl)
  have O5 := O4.set (i := k) (j := 4) (u := .int .i64 xr) (y := ⟨xg, xb, xk, xi, xr⟩) (by rw [List.length_set, List.length_set, List.length_set, List.length_set]; exact hk) (by decide) (by rw [List.getElem_set_self]; rfl)
  rw [List.set_set, List.set_set, List.set_set, List.set_set] at O5
  exact O5
set_option maxHeartbeats 8000000 in
theorem with_d {w : World} {A : Option Addr} {c : Nat} {P : List Pc} (hr : RowAt pcE.f 5 w A P) (hm : P.length ≤ 4096) {k : Nat} (hk : k < P.length) (x : Pc) (m : Int) :
    Calls Tryd.prog 40 #[.agg #[.slice A P.length c, .int .i64 m], .int .i64 k, .agg #[.int .i64 x.gen, .bool x.is, .int .i64 x.kind, .int .i64 x.index, .int .i64 x.rights]] w fun e w' => ∃ A' c', e = .returned (.agg #[.slice A' P.length c', .int .i64 m]) ∧ OwnE pcE w' w.heap.size (.slice A' P.length c') (P.set k x) ∧ Below w.heap.size w w' := by
  obtain ⟨xg, xb, xk, xi, xr⟩ := x
  obtain ⟨n, hn⟩ : ∃ n, n = P.length := ⟨_, rfl⟩
  rw [← hn] at hm hk ⊢
  replace hn := Lib.hid hn
  have t0 := Cel.new w #[.slice A n c, .int .i64 m] 65 0 (.slice A n c) rfl
  have t1 := Cel.new w #[.slice A n c, .int .i64 m] 65 1 (.int .i64 m) rfl
  have B1 := blA (Below.refl w.heap.size w) (.cells #[.slice A n c, .int .i64 m] 65)
  have s1 : (w.alloc (.cells #[.slice A n c, .int .i64 m] 65)).heap.size = w.heap.size + 1 := by simp
  obtain ⟨w1, hw1⟩ : ∃ w1, w1 = w.alloc (.cells #[.slice A n c, .int .i64 m] 65) := ⟨_, rfl⟩
  rw [← hw1] at t0 t1 B1 s1
  have x0 := Cel.new w1 #[.int .i64 (xg : Nat), .bool xb, .int .i64 xk, .int .i64 xi, .int .i64 (xr : Nat)] 96 0 (.int .i64 (xg : Nat)) rfl
  have x1 := Cel.new w1 #[.int .i64 (xg : Nat), .bool xb, .int .i64 xk, .int .i64 xi, .int .i64 (xr : Nat)] 96 1 (.bool xb) rfl
  have x2 := Cel.new w1 #[.int .i64 (xg : Nat), .bool xb, .int .i64 xk, .int .i64 xi, .int .i64 (xr : Nat)] 96 2 (.int .i64 xk) rfl
  have x3 := Cel.new w1 #[.int .i64 (xg : Nat), .bool xb, .int .i64 xk, .int .i64 xi, .int .i64 (xr : Nat)] 96 3 (.int .i64 xi) rfl
  have x4 := Cel.new w1 #[.int .i64 (xg : Nat), .bool xb, .int .i64 xk, .int .i64 xi, .int .i64 (xr : Nat)] 96 4 (.int .i64 (xr : Nat)) rfl
  have B2 := blA B1 (.cells #[.int .i64 (xg : Nat), .bool xb, .int .i64 xk, .int .i64 xi, .int .i64 (xr : Nat)] 96)
  replace t0 := t0.alloc (.cells #[.int .i64 (xg : Nat), .bool xb, .int .i64 xk, .int .i64 xi, .int .i64 (xr : Nat)] 96)
  replace t1 := t1.alloc (.cells #[.int .i64 (xg : Nat), .bool xb, .int .i64 xk, .int .i64 xi, .int .i64 (xr : Nat)] 96)
  have s2 : (w1.alloc (.cells #[.int .i64 (xg : Nat), .bool xb, .int .i64 xk, .int .i64 xi, .int .i64 (xr : Nat)] 96)).heap.size = w.heap.size + 2 := by simp [s1]
  rw [s1] at x0 x1 x2 x3 x4
  obtain ⟨w2, hw2⟩ : ∃ w2, w2 = w1.alloc (.cells #[.int .i64 (xg : Nat), .bool xb, .int .i64 xk, .int .i64 xi, .int .i64 (xr : Nat)] 96) := ⟨_, rfl⟩
  rw [← hw2] at t0 t1 B2 s2 x0 x1 x2 x3 x4
  have r0 := Cel.new w2 #[.slice none 0 0, .int .i64 0] 65 0 (.slice none 0 0) rfl
  have r1 := Cel.new w2 #[.slice none 0 0, .int .i64 0] 65 1 (.int .i64 0) rfl
  have B3 := blA B2 (.cells #[.slice none 0 0, .int .i64 0] 65)
  replace t0 := t0.alloc (.cells #[.slice none 0 0, .int .i64 0] 65)
  replace t1 := t1.alloc (.cells #[.slice none 0 0, .int .i64 0] 65)
  replace x0 := x0.alloc (.cells #[.slice none 0 0, .int .i64 0] 65)
  replace x1 := x1.alloc (.cells #[.slice none 0 0, .int .i64 0] 65)
  replace x2 := x2.alloc (.cells #[.slice none 0 0, .int .i64 0] 65)
  replace x3 := x3.alloc (.cells #[.slice none 0 0, .int .i64 0] 65)
  replace x4 := x4.alloc (.cells #[.slice none 0 0, .int .i64 0] 65)
  have s3 : (w2.alloc (.cells #[.slice none 0 0, .int .i64 0] 65)).heap.size = w.heap.size + 3 := by simp [s2]
  rw [s2] at r0 r1
  obtain ⟨w3, hw3⟩ : ∃ w3, w3 = w2.alloc (.cells #[.slice none 0 0, .int .i64 0] 65) := ⟨_, rfl⟩
  rw [← hw3] at t0 t1 B3 s3 x0 x1 x2 x3 x4 r0 r1
  have hsz : w.heap.size + 3 = w3.heap.size := s3.symm
  obtain ⟨Z, hZ⟩ : ∃ Z, w.heap.size = Z := ⟨_, rfl⟩
  rw [hZ] at t0 t1 x0 x1 x2 x3 x4 r0 r1 s1 s2 s3
  have OL := OwnE.lit (E := pcE) w3 (Z + 3) (by rw [s3]; exact Nat.le_refl _) [] #[] rfl (Nat.zero_le _)
  rw [s3] at OL
  replace OL := Lib.hid OL
  have HR := Lib.hid (hr.below (blA B3 (.cells #[] 96)))
  have B4 := Lib.hid (blA B3 (.cells #[] 96))
  have CS := Lib.hid (show ∀ w4 : World, Below (Z + 3) (w3.alloc (.cells #[] 96)) w4 → (Cel w4 Z 0 (.slice A n c) ∧ Cel w4 Z 1 (.int .i64 m)) ∧ (Cel w4 (Z + 1) 0 (.int .i64 (xg : Nat)) ∧ Cel w4 (Z + 1) 1 (.bool xb) ∧ Cel w4 (Z + 1) 2 (.int .i64 xk) ∧ Cel w4 (Z + 1) 3 (.int .i64 xi) ∧ Cel w4 (Z + 1) 4 (.int .i64 (xr : Nat))) ∧ Cel w4 (Z + 2) 0 (.slice none 0 0) ∧ Cel w4 (Z + 2) 1 (.int .i64 0) from fun w4 F => by
    have k : ∀ b o v, b < Z + 3 → Cel w3 b o v → Cel w4 b o v := fun b o v hb hc => by
      have h1 := hc.alloc (.cells #[] 96)
      exact ⟨(F.cell (p := ⟨b, o, none⟩) hb).trans h1.1, (F.frozen (p := ⟨b, o, none⟩) hb).trans h1.2⟩
    exact ⟨⟨k _ _ _ (by omega) t0, k _ _ _ (by omega) t1⟩, ⟨k _ _ _ (by omega) x0, k _ _ _ (by omega) x1, k _ _ _ (by omega) x2, k _ _ _ (by omega) x3, k _ _ _ (by omega) x4⟩, k _ _ _ (by omega) r0, k _ _ _ (by omega) r1⟩)
  have t0a := t0.1
  have s3' := Lib.hid s3
  have hZ' := Lib.hid hZ
  have ha1 := hw1.symm; have ha2 := hw2.symm; have ha3 := hw3.symm
  replace s3 := s3
  clear hr B1 B2 B3 t0 t1 x0 x1 x2 x3 x4 r0 r1 hsz hw1 hw2 hw3
  go_enter Tryd.func40, Tryd.ntmps40
  go_wp2_with (first | (at_builtin; refine append_rowE (E := pcE) (base := Z + 3) (xs := []) (ys := P) rfl rfl Tryd.underlying63 rfl OL.out rfl HR.out hn.out (by simp) (by rw [← hn.out]; omega) (by simp [s3'.out]) ?_) | fail)
  intro v4 w4 O4 G1 G2 G3
  have hkP : k < P.length := by rw [← hn.out]; exact hk
  obtain ⟨g, cg, rfl, hg1, hg2, hg3⟩ := O4.pos (by omega)
  rw [← hn.out]
  rw [← hn.out] at O4
  obtain ⟨⟨t0, t1⟩, ⟨x0, x1, x2, x3, x4⟩, r0, r1⟩ := CS.out w4 G1
  obtain ⟨u0, q0⟩ : ∃ u, Cel w4 g (k * 5) u := ⟨_, O4.cel (i := k) (j := 0) hkP rfl⟩
  obtain ⟨u1, q1⟩ : ∃ u, Cel w4 g (k * 5 + 1) u := ⟨_, O4.cel (i := k) (j := 1) hkP rfl⟩
  obtain ⟨u2, q2⟩ : ∃ u, Cel w4 g (k * 5 + 2) u := ⟨_, O4.cel (i := k) (j := 2) hkP rfl⟩
  obtain ⟨u3, q3⟩ : ∃ u, Cel w4 g (k * 5 + 3) u := ⟨_, O4.cel (i := k) (j := 3) hkP rfl⟩
  obtain ⟨u4, q4⟩ : ∃ u, Cel w4 g (k * 5 + 4) u := ⟨_, O4.cel (i := k) (j := 4) hkP rfl⟩
  have O5 := Lib.hid (own_set5 O4 hkP ⟨xg, xb, xk, xi, xr⟩)
  have B5 := Lib.hid ((B4.out.trans (G1.mono (by omega))))
  have n0 : ¬ (g = Z) := by omega
  have n1 : ¬ (g = Z + 1) := by omega
  have n2 : ¬ (g = Z + 2) := by omega
  have hgZ := Lib.hid (show Z ≤ g by omega)
  have m0 := t0.1; have m1 := t1.1
  have y0 := x0.1; have y1 := x1.1; have y2 := x2.1; have y3 := x3.1; have y4 := x4.1
  have e0 := r0.1; have e1 := r1.1; have f0 := r0.2; have f1 := r1.2
  have c0 := q0.1; have c1 := q1.1; have c2 := q2.1; have c3 := q3.1; have c4 := q4.1
  have d0 := q0.2; have d1 := q1.2; have d2 := q2.2; have d3 := q3.2; have d4 := q4.2
  clear O4 G1 G2 G3 CS HR OL t0 t1 x0 x1 x2 x3 x4 r0 r1 q0 q1 q2 q3 q4 t0a ha1 ha2 ha3 s1 s2 s3
  go_wp2_with fail
  refine bodyPost_ret (v := .agg #[.slice (some ⟨g, 0, none⟩) n cg, .int .i64 m]) ?hres rfl ?hend
  case hend =>
    refine ⟨_, _, rfl, ?_, ?_⟩
    · have h1 := O5.out.other (a := ⟨Z + 2, 0, none⟩) (fun e => n2 (by injection e)) (.slice (some ⟨g, 0, none⟩) n cg)
      have h2 := h1.other (a := ⟨Z + 2, 1, none⟩) (fun e => n2 (by injection e)) (.int .i64 m)
      exact h2.mono (by omega)
    · have h0 := B5.out
      rw [hZ] at h0
      exact ((((((h0.setCell (p := ⟨g, _, none⟩) hgZ.out _).setCell (p := ⟨g, _, none⟩) hgZ.out _).setCell (p := ⟨g, _, none⟩) hgZ.out _).setCell (p := ⟨g, _, none⟩) hgZ.out _).setCell (p := ⟨g, _, none⟩) hgZ.out _).setCell (p := ⟨Z + 2, 0, none⟩) (by show Z ≤ Z + 2; omega) _).setCell (p := ⟨Z + 2, 1, none⟩) (by show Z ≤ Z + 2; omega) _
  case hres => simp [results, Tryd.results40, go_sem, *]
end Go.Proofs.YtaflekpfpdnbcaaDoor
