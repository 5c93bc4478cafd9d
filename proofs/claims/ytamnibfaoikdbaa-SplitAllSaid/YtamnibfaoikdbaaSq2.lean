/- The document's ticks together; two scripts woven. -/
import Derived.Test.YtamnibfaoikdbaaSq
import Derived.Test.YtamnibfaoikdbaaOwnES
namespace Go.Proofs.Ytamnibfaoikdbaa
open Go.RowKit
set_option linter.unusedVariables false
set_option linter.unusedSimpArgs false
set_option maxRecDepth 100000

set_option maxHeartbeats 4000000 in
theorem steps_c (w : World) (n0 : Nat) (hn0 : n0 ≤ 1000000) :
    Calls Try.prog 36 #[.int .i64 n0] w fun r w' => ∃ v, r = .returned v ∧ OwnE enE w' w.heap.size v (stepsN n0) ∧ Below w.heap.size w w' := by
  have hlen := steps_len n0
  have O := Lib.hid (show OwnE enE (w.alloc (.cells #[] 47)) w.heap.size (.slice (some ⟨w.heap.size, 0, none⟩) 0 0) [] from OwnE.lit (E := enE) w w.heap.size (Nat.le_refl _) [] #[] rfl (by simp))
  have B := Lib.hid (Below.alloc (Below.refl w.heap.size w) (Nat.le_refl _) (.cells #[] 47))
  replace hlen := Lib.hid hlen
  go_enter Try.func36, Try.ntmps36
  go_wp2_with fail
  generalize w.alloc (.cells #[] 47) = W at *
  go_loopw [0, 3] (fun ll v wr => ∃ (a : Nat) (L : List En), ll = .int .i64 a ∧ Hid (OwnE enE wr w.heap.size v L) ∧ Hid (L ++ stepsN a = stepsN n0) ∧ Hid (a ≤ n0) ∧ Hid (Below w.heap.size w wr)) (fun ll _ _ => (intOf ll).toNat)
  case atStart => exact ⟨n0, [], rfl, O, Lib.hid (by simp), Lib.hid (Nat.le_refl _), B⟩
  case round =>
    obtain ⟨a, L, rfl, hO, hF, ha, hB⟩ := hrel
    have hL : Hid (L.length ≤ 10000000) := Lib.hid (by
      have h1 := congrArg List.length hF.out
      rw [List.length_append] at h1
      have := hlen.out; omega)
    by_cases h : 100 < a
    · have hF2 := hF.out
      rw [steps_big h, ← List.singleton_append, ← List.append_assoc] at hF2
      replace hF2 := Lib.hid hF2
      have hw : wrap64 ((a : Int) - 100) = ((a - 100 : Nat) : Int) := by have := ha.out; unfold wrap64; omega
      go_wp2_with (first | (at_builtin; refine append_rowE (E := enE) (ys := [tk 100]) rfl rfl Try.underlying41 rfl (hO.out.alloc _) rfl (rowAt_new1 _ _ _ (tk 100) rfl rfl) rfl hL.out (by simp) (by have := hB.out.size; simp; omega) ?_))
      intro v' w' G1 G2 _ _
      have G3 := Lib.hid (hB.out.trans ((Below.alloc (Below.refl w.heap.size _) hB.out.size _).trans G2))
      replace G1 := Lib.hid G1
      clear G2 hO hB
      go_wp2
      exact ⟨⟨a - 100, _, by first | rfl | congr 1 | (congr 1; omega), G1, hF2, Lib.hid (by have := ha.out; omega), G3⟩, by simp [intOf]; omega⟩
    · by_cases h0 : 0 < a
      · have hF2 := hF.out
        rw [steps_small h h0] at hF2
        replace hF2 := Lib.hid hF2
        go_wp2_with (first | (at_builtin; refine append_rowE (E := enE) (ys := [tk a]) rfl rfl Try.underlying41 rfl (hO.out.alloc _) rfl (rowAt_new1 _ _ _ (tk a) rfl rfl) rfl hL.out (by simp) (by have := hB.out.size; simp; omega) ?_))
        intro v' w' G1 G2 _ _
        have G3 := Lib.hid (hB.out.trans ((Below.alloc (Below.refl w.heap.size _) hB.out.size _).trans G2))
        rw [hF2.out] at G1
        replace G1 := Lib.hid G1
        clear G2 hO hB
        go_wp2
        go_ret
        exact ⟨_, rfl, G1.out, G3.out⟩
      · obtain rfl : a = 0 := by omega
        have hF2 := hF.out
        rw [steps_zero, List.append_nil] at hF2
        subst hF2
        go_wp2
        go_ret
        exact ⟨_, rfl, hO.out, hB.out⟩

def okN (xs : List En) : Prop := ∀ e ∈ xs, e.kind = 0 → 1 ≤ e.n ∧ e.n ≤ 100
set_option maxHeartbeats 4000000 in
theorem squeeze18_c {w : World} {A : Option Addr} {c : Nat} {xs : List En} (hr : RowAt En.cells 9 w A xs) (hl : xs.length ≤ 1000) (ok : okT xs) :
    Calls Try.prog 28 #[.slice A xs.length c] w fun r w' => ∃ v, r = .returned v ∧ OwnE enE w' w.heap.size v (sqGo 0 xs) ∧ Below w.heap.size w w' := by
  have HR := Lib.hid hr
  have OK := Lib.hid ok
  have hlen := sq_len xs 0 ok
  replace hlen := Lib.hid hlen
  clear hr ok
  have O := Lib.hid (show OwnE enE (w.alloc (.cells #[] 47)) w.heap.size (.slice (some ⟨w.heap.size, 0, none⟩) 0 0) [] from OwnE.lit (E := enE) w w.heap.size (Nat.le_refl _) [] #[] rfl (by simp))
  have B := Lib.hid (Below.alloc (Below.refl w.heap.size w) (Nat.le_refl _) (.cells #[] 47))
  go_enter Try.func28, Try.ntmps28
  go_wp2_with fail
  generalize w.alloc (.cells #[] 47) = W at *
  go_loopw [3, 4, 5] (fun v rr ii wr => ∃ (i r : Nat) (out : List En), ii = .int .i64 i ∧ rr = .int .i64 r ∧ Hid (OwnE enE wr w.heap.size v out) ∧ Hid (out ++ sqGo r (xs.drop i) = sqGo 0 xs) ∧ Hid (r ≤ 100 * i) ∧ Hid (i ≤ xs.length) ∧ Hid (Below w.heap.size w wr)) (fun _ _ ii _ => xs.length - (intOf ii).toNat)
  case atStart => exact ⟨0, 0, [], rfl, rfl, O, Lib.hid (by simp), Lib.hid (Nat.zero_le _), Lib.hid (Nat.zero_le _), B⟩
  case round =>
    obtain ⟨i, r, out, rfl, rfl, hO, hF, hri, hi, hB⟩ := hrel
    have hL : Hid (out.length ≤ 1000000) := Lib.hid (by
      have h1 := congrArg List.length hF.out
      rw [List.length_append] at h1
      have := hlen.out; omega)
    by_cases hlt : i < xs.length
    · obtain ⟨b, off, rfl, hbl, c0, c1, c2, c3, c4, c5, c6, c7, c8⟩ := HR.out.en hlt
      have hrow := HR.out i hlt
      have hok := OK.out xs[i] (List.getElem_mem hlt)
      have hd : xs.drop i = xs[i] :: xs.drop (i + 1) := List.drop_eq_getElem_cons hlt
      have hF2 := hF.out
      rw [hd] at hF2
      obtain ⟨e, he⟩ : ∃ e, e = xs[i] := ⟨_, rfl⟩
      rw [← he] at c0 c1 c2 c3 c4 c5 c6 c7 c8 hok hF2
      have C := Lib.hid (And.intro c0 (And.intro c1 (And.intro c2 (And.intro c3 (And.intro c4 (And.intro c5 (And.intro c6 (And.intro c7 c8))))))))
      replace hok := Lib.hid hok; replace he := Lib.hid he
      clear hd hrow
      by_cases hk : e.kind = 0
      · have e1 : (e.kind == 0) = true := beq_iff_eq.mpr hk
        have hn := hok.out hk
        rw [sqGo, if_pos hk] at hF2
        replace hF2 := Lib.hid hF2
        rw [← hB.out.cell (p := ⟨b, _, none⟩) hbl] at c0 c1 c2 c3 c4 c5 c6 c7 c8
        have hr2 : (r : Int) ≤ 100000 := by have := hri.out; omega
        have hw : wrap64 ((r : Int) + e.n) = (r : Int) + e.n := by unfold wrap64; omega
        replace hk := Lib.hid hk
        go_wp2
        exact ⟨⟨i + 1, r + e.n.toNat, out, by go_num, by congr 1; omega, hO, hF2, Lib.hid (by have := hri.out; omega), Lib.hid (by omega), hB⟩, by simp [intOf]; omega⟩
      · have e1 : (e.kind == 0) = false := beq_eq_false_iff_ne.mpr hk
        rw [sqGo, if_neg hk] at hF2
        replace hF2 := Lib.hid hF2
        rw [← hB.out.cell (p := ⟨b, _, none⟩) hbl] at c0 c1 c2 c3 c4 c5 c6 c7 c8
        replace hk := Lib.hid hk
        have i0 : (0 : Int) ≤ (i : Int) := by omega
        have i1 : (i : Int) < (xs.length : Int) := by omega
        have hs0 : (fun w' : World => w'.cell? ⟨b, off + i * 9, none⟩ = some (.int .i64 e.kind) ∧ w'.cell? ⟨b, off + i * 9 + 1, none⟩ = some (.int .i64 e.who) ∧ w'.cell? ⟨b, off + i * 9 + 2, none⟩ = some (.int .i64 e.n) ∧ w'.cell? ⟨b, off + i * 9 + 3, none⟩ = some (.int .i64 e.call_Op) ∧ w'.cell? ⟨b, off + i * 9 + 4, none⟩ = some (.int .u64 e.call_A) ∧ w'.cell? ⟨b, off + i * 9 + 5, none⟩ = some (.int .u64 e.call_B) ∧ w'.cell? ⟨b, off + i * 9 + 6, none⟩ = some (.int .u64 e.call_C) ∧ w'.cell? ⟨b, off + i * 9 + 7, none⟩ = some (.int .i64 e.dev) ∧ w'.cell? ⟨b, off + i * 9 + 8, none⟩ = some (.int .i64 e.mask)) wr := ⟨c0, c1, c2, c3, c4, c5, c6, c7, c8⟩
        have key : ∀ (x : World), Below wr.heap.size wr x → (fun w' : World => w'.cell? ⟨b, off + i * 9, none⟩ = some (.int .i64 e.kind) ∧ w'.cell? ⟨b, off + i * 9 + 1, none⟩ = some (.int .i64 e.who) ∧ w'.cell? ⟨b, off + i * 9 + 2, none⟩ = some (.int .i64 e.n) ∧ w'.cell? ⟨b, off + i * 9 + 3, none⟩ = some (.int .i64 e.call_Op) ∧ w'.cell? ⟨b, off + i * 9 + 4, none⟩ = some (.int .u64 e.call_A) ∧ w'.cell? ⟨b, off + i * 9 + 5, none⟩ = some (.int .u64 e.call_B) ∧ w'.cell? ⟨b, off + i * 9 + 6, none⟩ = some (.int .u64 e.call_C) ∧ w'.cell? ⟨b, off + i * 9 + 7, none⟩ = some (.int .i64 e.dev) ∧ w'.cell? ⟨b, off + i * 9 + 8, none⟩ = some (.int .i64 e.mask)) x := fun x hx => by
          have hl : b < wr.heap.size := Nat.lt_of_lt_of_le hbl hB.out.size
          refine ⟨?_, ?_, ?_, ?_, ?_, ?_, ?_, ?_, ?_⟩
          all_goals (rw [hx.cell (p := ⟨b, _, none⟩) hl]; assumption)
        have key2 : Hid (∀ (x : World), Below w.heap.size w x → (fun w' : World => w'.cell? ⟨b, off + i * 9, none⟩ = some (.int .i64 e.kind) ∧ w'.cell? ⟨b, off + i * 9 + 1, none⟩ = some (.int .i64 e.who) ∧ w'.cell? ⟨b, off + i * 9 + 2, none⟩ = some (.int .i64 e.n) ∧ w'.cell? ⟨b, off + i * 9 + 3, none⟩ = some (.int .i64 e.call_Op) ∧ w'.cell? ⟨b, off + i * 9 + 4, none⟩ = some (.int .u64 e.call_A) ∧ w'.cell? ⟨b, off + i * 9 + 5, none⟩ = some (.int .u64 e.call_B) ∧ w'.cell? ⟨b, off + i * 9 + 6, none⟩ = some (.int .u64 e.call_C) ∧ w'.cell? ⟨b, off + i * 9 + 7, none⟩ = some (.int .i64 e.dev) ∧ w'.cell? ⟨b, off + i * 9 + 8, none⟩ = some (.int .i64 e.mask)) x) := Lib.hid fun x hx => by
          have hC := C.out
          refine ⟨?_, ?_, ?_, ?_, ?_, ?_, ?_, ?_, ?_⟩
          all_goals (rw [hx.cell (p := ⟨b, _, none⟩) hbl]; simp only [hC])
        have hr3 : r ≤ 1000000 := by have := hri.out; have := hi.out; omega
        have hs3 : Hid ((stepsN r).length ≤ 10000000) := Lib.hid (Nat.le_trans (steps_len r) (by omega))
        replace hr3 := Lib.hid hr3; replace hs0 := Lib.hid hs0; replace key := Lib.hid key
        go_wp2
        clear c0 c1 c2 c3 c4 c5 c6 c7 c8
        have hA := Lib.hid (Below.alloc (Below.refl wr.heap.size wr) (Nat.le_refl _) (.cells #[.int .i64 e.kind, .int .i64 e.who, .int .i64 e.n, .int .i64 e.call_Op, .int .u64 e.call_A, .int .u64 e.call_B, .int .u64 e.call_C, .int .i64 e.dev, .int .i64 e.mask] 47))
        have RA := Lib.hid (rowAt_new1 (E := enE) wr #[.int .i64 e.kind, .int .i64 e.who, .int .i64 e.n, .int .i64 e.call_Op, .int .u64 e.call_A, .int .u64 e.call_B, .int .u64 e.call_C, .int .i64 e.dev, .int .i64 e.mask] 47 e rfl rfl)
        have hAr := Lib.hid (Below.refl (wr.alloc (.cells #[.int .i64 e.kind, .int .i64 e.who, .int .i64 e.n, .int .i64 e.call_Op, .int .u64 e.call_A, .int .u64 e.call_B, .int .u64 e.call_C, .int .i64 e.dev, .int .i64 e.mask] 47)).heap.size (wr.alloc (.cells #[.int .i64 e.kind, .int .i64 e.who, .int .i64 e.n, .int .i64 e.call_Op, .int .u64 e.call_A, .int .u64 e.call_B, .int .u64 e.call_C, .int .i64 e.dev, .int .i64 e.mask] 47)))
        have hs4 := Lib.hid (Nat.le_trans (steps_len r) hr3.out)
        have hOA := Lib.hid (hO.out.alloc (.cells #[.int .i64 e.kind, .int .i64 e.who, .int .i64 e.n, .int .i64 e.call_Op, .int .u64 e.call_A, .int .u64 e.call_B, .int .u64 e.call_C, .int .i64 e.dev, .int .i64 e.mask] 47))
        go_region_held3 (fun w' => w'.cell? ⟨b, off + i * 9, none⟩ = some (.int .i64 e.kind) ∧ w'.cell? ⟨b, off + i * 9 + 1, none⟩ = some (.int .i64 e.who) ∧ w'.cell? ⟨b, off + i * 9 + 2, none⟩ = some (.int .i64 e.n) ∧ w'.cell? ⟨b, off + i * 9 + 3, none⟩ = some (.int .i64 e.call_Op) ∧ w'.cell? ⟨b, off + i * 9 + 4, none⟩ = some (.int .u64 e.call_A) ∧ w'.cell? ⟨b, off + i * 9 + 5, none⟩ = some (.int .u64 e.call_B) ∧ w'.cell? ⟨b, off + i * 9 + 6, none⟩ = some (.int .u64 e.call_C) ∧ w'.cell? ⟨b, off + i * 9 + 7, none⟩ = some (.int .i64 e.dev) ∧ w'.cell? ⟨b, off + i * 9 + 8, none⟩ = some (.int .i64 e.mask)) (first | exact hs0.out | exact key2.out _ HX3 | exact key2.out _ HX2 | exact key2.out _ (Below.alloc HX2 HX2.size _) | exact key.out _ HX1 | exact key.out _ (hA.out.drewN 1) | exact key.out _ hA.out | exact key.out _ (Below.alloc HX1 HX1.size _)) (first
          | (go_at_call 36; refine (steps_c _ r hr3.out).mono ?_; rintro x w1 ⟨v1, rfl, Q1, F1⟩; obtain ⟨A1, c1, rfl, -⟩ := Q1.slice; first | (have HX1 : Below wr.heap.size wr w1 := ((Below.refl _ wr).drewN 1).trans F1; have HO1 : OwnE enE w1 w.heap.size u3 out := hO.out.below HX1) | (have HX1 : Below wr.heap.size wr w1 := (hA.out.drewN 1).trans (F1.mono (by simp)); have HO1 : OwnE enE w1 w.heap.size u3 out := hO.out.below HX1; have R1 : RowAt enE.f enE.sz w1 (some ⟨wr.heap.size, 0, none⟩) [e] := RA.out.below ((hAr.out.drewN 1).trans F1)))
          | (refine step_append_rowE (E := enE) (ys := stepsN r) rfl rfl Try.underlying41 rfl HO1 rfl Q1.row.1 rfl (by have := hL.out; omega) hs3.out (by have := hB.out.size; have := HX1.size; omega) ?_; intro v2 w2 G1 G2 G3 G4; have HX2 : Below w.heap.size w w2 := (hB.out.trans (HX1.mono hB.out.size)).trans G2; have HY2 : Hid (w2 = w2) := Lib.hid rfl; first | (have R2 := rowAt_grown R1 G3 (own_ne hO.out (Nat.le_refl _))) | skip)
          | (refine step_append_rowE (E := enE) (ys := stepsN r) rfl rfl Try.underlying41 rfl (HO1.alloc _) rfl (Q1.alloc _).row.1 rfl (by have := hL.out; omega) hs3.out (by have := hB.out.size; have := HX1.size; simp; omega) ?_; intro v2 w2 G1 G2 G3 G4; have HX2 : Below w.heap.size w w2 := (Below.alloc (hB.out.trans (HX1.mono hB.out.size)) (by have := hB.out.size; have := HX1.size; omega) _).trans G2; have R2 := rowAt_grown (rowAt_new1 (E := enE) w1 _ _ e rfl rfl) G3 (own_ne HO1 (Nat.le_refl _)))
          | (refine step_append_rowE (E := enE) (ys := [e]) rfl rfl Try.underlying41 rfl G1 rfl R2 rfl (by rw [List.length_append]; have := hL.out; have := hs4.out; omega) (by simp) HX2.size ?_; intro v3 w3 P1 P2 P3 P4; have HX3 : Below w.heap.size w w3 := HX2.trans P2)
          | (refine step_append_rowE (E := enE) (ys := [e]) rfl rfl Try.underlying41 rfl (G1.alloc _) rfl (rowAt_new1 (E := enE) w2 _ _ e rfl rfl) rfl (by rw [List.length_append]; have := hL.out; have := hs4.out; omega) (by simp) (by have := HX2.size; simp; omega) ?_; intro v3 w3 P1 P2 P3 P4; have HX3 : Below w.heap.size w w3 := (Below.alloc HX2 HX2.size _).trans P2)
          | fail)
        all_goals
          have hFx : Hid (out ++ stepsN r ++ [e] ++ sqGo 0 (xs.drop (i + 1)) = sqGo 0 xs) := Lib.hid (by rw [← hF2.out]; simp)
          replace P1 := Lib.hid P1; replace HX3 := Lib.hid HX3
          try clear R2
          clear P2 P3 P4 G1 G2 G3 G4 HX2 HX1 HO1 Q1 F1
          go_wp2
        all_goals exact ⟨⟨i + 1, 0, _, by go_num, rfl, P1, hFx, Lib.hid (by omega), Lib.hid (by omega), HX3⟩, by simp [intOf]; omega⟩
    · have he : xs.drop i = [] := List.drop_of_length_le (by omega)
      have hF2 := hF.out
      rw [he, sqGo_nil] at hF2
      replace hF2 := Lib.hid hF2
      clear he
      have hr3 : r ≤ 1000000 := by have := hri.out; have := hi.out; omega
      have hs4 := Lib.hid (Nat.le_trans (steps_len r) hr3)
      replace hr3 := Lib.hid hr3
      go_wp2_with fail
      refine (steps_c wr r hr3.out).mono ?_
      rintro x w1 ⟨v1, rfl, Q1, F1⟩
      obtain ⟨A1, c1, rfl, -⟩ := Q1.slice
      have HO1 : OwnE enE w1 w.heap.size u3 out := hO.out.below F1
      have HX1 := Lib.hid (hB.out.trans (F1.mono hB.out.size))
      go_wp2_with (first | (at_builtin; refine append_rowE (E := enE) (ys := stepsN r) rfl rfl Try.underlying41 rfl HO1 rfl Q1.row.1 rfl (by have := hL.out; omega) (Nat.le_trans hs4.out (by decide)) HX1.out.size ?_))
      intro v2 w2 G1 G2 _ _
      have HX2 := Lib.hid (HX1.out.trans G2)
      rw [hF2.out] at G1
      replace G1 := Lib.hid G1
      clear HO1 HX1 Q1 F1 G2
      go_wp2
      go_ret
      exact ⟨_, rfl, G1.out, HX2.out⟩
end Go.Proofs.Ytamnibfaoikdbaa
