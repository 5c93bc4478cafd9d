/- QueueFirst. -/
import Derived.Test.YthapdlgaccfbfaaFe
import Derived.Deep.DeepCutAuto
import Derived.Deep.CutBlock
namespace Go.Proofs.Ythapdlgaccfbfaa
open Go.RowKit
set_option linter.unusedVariables false
set_option linter.unusedSimpArgs false
set_option linter.unusedSectionVars false
set_option maxRecDepth 100000

theorem okB_cases (t d : Nat) (x : Th) : (x.1 = 1 ∧ (0 ≤ x.2 ∧ x.2 < t)) ∨ (x.1 = 1 ∧ x.2 < 0) ∨ (x.1 = 1 ∧ (0 ≤ x.2 ∧ (t : Int) ≤ x.2)) ∨ (x.1 = 2 ∧ (0 ≤ x.2 ∧ x.2 < d)) ∨ (x.1 = 2 ∧ x.2 < 0) ∨ (x.1 = 2 ∧ (0 ≤ x.2 ∧ (d : Int) ≤ x.2)) ∨ (x.1 ≠ 1 ∧ x.1 ≠ 2 ∧ x.2 < 0) ∨ (x.1 ≠ 1 ∧ x.1 ≠ 2 ∧ 0 ≤ x.2) := by omega
theorem push_sub {t d mo : Nat} {T XS : List Th} {x : Th} {i : Nat} (hi : i < XS.length) (hx : XS[i] = x) (h : ∀ y ∈ T, y ∈ XS.take i) : ∀ y ∈ pushT t d mo T x, y ∈ XS.take (i + 1) := by
  intro y hy
  rw [show XS.take (i + 1) = XS.take i ++ [x] by rw [← hx]; simp]
  unfold pushT at hy
  split at hy
  · rcases List.mem_append.1 hy with h1 | h1
    · exact List.mem_append.2 (.inl (h y h1))
    · exact List.mem_append.2 (.inr h1)
  · exact List.mem_append.2 (.inl (h y hy))
theorem same_len {T W : List Th} (h1 : T.Nodup) (h2 : W.Nodup) (h : ∀ y, y ∈ W ↔ y ∈ T) : T.length = W.length :=
  ((List.perm_ext_iff_of_nodup h1 h2).2 (fun a => (h a).symm)).length_eq

set_option maxHeartbeats 16000000 in
theorem first_walk (a b m : Int) (A0 : Option Addr) (c0 : Nat) (xs : List Tg) (A1 : Option Addr) (c1 : Nat) (ys : List Tg) (w : World) (hr : RowAt Tg.cells 2 w A0 xs) (hr1 : RowAt Tg.cells 2 w A1 ys) :
    Calls Try.prog 5 #[.int .i64 a, .int .i64 b, .int .i64 m, .slice A0 xs.length c0, .slice A1 ys.length c1] w fun e w' => e = .returned (.bool true) ∧ Below w.heap.size w w' := by
  have HR := Lib.hid hr
  have HR1 := Lib.hid hr1
  clear hr hr1
  by_cases hbig : 60 < xs.length ∨ 60 < ys.length
  · have hbig := Lib.hid hbig
    go_enter Try.func5, Try.ntmps5
    go_wp2_with fail
    refine (alive12_c w).mono ?_
    rintro e w1 ⟨rfl, hB1⟩
    have HB1 := Lib.hid hB1
    clear hB1
    by_cases h1 : 60 < xs.length
    · have e1 : decide ((60 : Int) < (xs.length : Int)) = true := by simp; omega
      go_wp2
      go_ret
      exact ⟨rfl, HB1.out⟩
    · have e1 : decide ((60 : Int) < (xs.length : Int)) = false := by simp; omega
      have h2 : 60 < ys.length := by have := hbig.out; omega
      have e2 : decide ((60 : Int) < (ys.length : Int)) = true := by simp; omega
      go_wp2
      go_ret
      exact ⟨rfl, HB1.out⟩
  have hb1 : decide ((60 : Int) < (xs.length : Int)) = false := by simp; omega
  have hb2 : decide ((60 : Int) < (ys.length : Int)) = false := by simp; omega
  have b1 : Hid (xs.length ≤ 60) := Lib.hid (by omega)
  have b2 : Hid (ys.length ≤ 60) := Lib.hid (by omega)
  obtain ⟨t, ht, ht2⟩ := mask31 a
  obtain ⟨d, hd, hd2⟩ := mask31 b
  obtain ⟨mo, hm, hm2⟩ := mask31 m
  obtain ⟨XS, hXS⟩ : ∃ XS, XS = xs.map Tg.th := ⟨_, rfl⟩
  have hXl : Hid (XS.length = xs.length) := Lib.hid (by rw [hXS, List.length_map])
  have hXi : Hid (∀ i (h : i < xs.length), XS[i]'(by rw [hXl.out]; exact h) = (xs[i].kind, xs[i].index)) := Lib.hid (fun i h => by subst hXS; rw [List.getElem_map]; rfl)
  clear hbig hXS
  go_enter Try.func5, Try.ntmps5
  go_wp2_with fail
  refine (alive12_c w).mono ?_
  rintro e w1 ⟨rfl, hB1⟩
  go_wp2_with fail
  refine (newQ_c w1 t d mo t d mo (by unfold mx0; omega) (by unfold mx0; omega) (by unfold mx0; omega) (by omega)).mono ?_
  rintro e w2 ⟨q, p, L, M, rfl, S, l1, l2, l3, l4, B⟩
  have S0 := StQ.new hB1 S l1 l2 l3 l4 B
  have B0 := Below.alloc (Below.refl w2.heap.size w2) (Nat.le_refl _) (.cells #[] 27)
  have S1 := Lib.hid (S0.below B0)
  have O1 := Lib.hid (show OwnE thE (w2.alloc (.cells #[] 27)) w2.heap.size (.slice (some ⟨w2.heap.size, 0, none⟩) 0 0) [] from OwnE.lit (E := thE) w2 w2.heap.size (Nat.le_refl _) [] #[] rfl (by simp))
  have hE := Lib.hid (And.intro S0.s.lt S0.b.size)
  have hEs := Lib.hid (show w2.heap.size ≤ (w2.alloc (.cells #[] 27)).heap.size by simp)
  clear hB1 S l1 l2 l3 l4 B S0 B0
  go_wp2_with fail
  generalize w2.alloc (.cells #[] 27) = W2 at *
  generalize w2.heap.size = E at *
  go_loopw [53] (fun ii wr => ∃ (i : Nat) (T : List Th), ii = .int .i64 i ∧ Hid (StQ w wr q p L M t d mo T) ∧ Hid (OwnE thE wr E (.slice (some ⟨E, 0, none⟩) 0 0) []) ∧ Hid (∀ y ∈ T, y ∈ XS.take i) ∧ Hid (i ≤ xs.length) ∧ Hid (E ≤ wr.heap.size)) (fun ii _ => xs.length - (intOf ii).toNat)
  case atStart => exact ⟨0, [], rfl, S1, O1, Lib.hid (fun y hy => by simp at hy), Lib.hid (Nat.zero_le _), hEs⟩
  case round =>
    clear S1 O1 hEs
    obtain ⟨i, T, rfl, S, O, hs, hi, hEs⟩ := hrel
    by_cases hlt : i < xs.length
    · have hi61 : i < 61 := by have := b1.out; omega
      obtain ⟨b, off, rfl, hbl, hc⟩ := HR.out i hlt
      have hz0 := (S.out.b.cell (p := ⟨b, off + i * 2 + 0, none⟩) hbl).trans (hc 0 _ rfl)
      have hz1 := (S.out.b.cell (p := ⟨b, off + i * 2 + 1, none⟩) hbl).trans (hc 1 _ rfl)
      rw [Nat.add_zero] at hz0
      obtain ⟨x, hx⟩ : ∃ x : Th, x = (xs[i].kind, xs[i].index) := ⟨_, rfl⟩
      have hx1 : xs[i].kind = x.1 := by rw [hx]
      have hx2 : xs[i].index = x.2 := by rw [hx]
      rw [hx1] at hz0
      rw [hx2] at hz1
      have hsub := Lib.hid (push_sub (t := t) (d := d) (mo := mo) (T := T) (XS := XS) (x := x) (i := i) (by rw [hXl.out]; exact hlt) (by rw [hXi.out i hlt, hx]) hs.out)
      clear hc hbl hx hx1 hx2
      have hB0 := Below.alloc (Below.refl wr.heap.size wr) (Nat.le_refl _) (.cells #[.int .i64 x.1, .int .i64 x.2] 27)
      have S1 := Lib.hid (S.out.below hB0)
      have O1 := Lib.hid (O.out.below hB0)
      have y0 := Lib.hid (Cel.new wr #[.int .i64 x.1, .int .i64 x.2] 27 0 _ rfl)
      have y1 := Lib.hid (Cel.new wr #[.int .i64 x.1, .int .i64 x.2] 27 1 _ rfl)
      have hYl := Lib.hid S.out.s.lt
      have hE1 := Lib.hid (Nat.le_trans hEs.out hB0.size)
      clear S O hB0 hEs
      go_wp2_with fail
      generalize wr.alloc (.cells #[.int .i64 x.1, .int .i64 x.2] 27) = wz at *
      generalize wr.heap.size = Y at *
      refine (hasQ_c S1.out.s x).mono ?_
      rintro e w5 ⟨rfl, F⟩
      have S2 := Lib.hid (S1.out.below F)
      have O2 := Lib.hid (O1.out.below F)
      have hE2 := Lib.hid (Nat.le_trans hE1.out F.size)
      have u0 := Lib.hid (y0.out.low F y0.out.lt); have u1 := Lib.hid (y1.out.low F y1.out.lt)
      have v0 := u0.out.1; have v1 := u1.out.1
      clear F S1 O1 hE1 y0 y1 hz0 hz1
      go_wp2_with fail
      refine (devsQ_c S2.out.s).mono ?_
      rintro e w6 ⟨rfl, rfl⟩
      obtain ⟨hn, hhn⟩ : ∃ hn, hn = heldT T := ⟨_, rfl⟩
      rw [← hhn]
      obtain ⟨had, hhad⟩ : ∃ had, had = decide (x ∈ T) := ⟨_, rfl⟩
      rw [← hhad]
      replace hhn := Lib.hid hhn; replace hhad := Lib.hid hhad
      go_upto_region 12 with fail
      go_cut [17] (fun v wx => v = .bool (okB t d x) ∧ wx = w5)
      case first =>
        rcases okB_cases t d x with ⟨h1, h2, h3⟩ | ⟨h1, h2⟩ | ⟨h1, h2, h3⟩ | ⟨h1, h2, h3⟩ | ⟨h1, h2⟩ | ⟨h1, h2, h3⟩ | ⟨h1, h2, h3⟩ | ⟨h1, h2, h3⟩
        · have f1 : (x.1 == 1) = true := by rw [h1]; rfl
          have f4 : (x.1 == 2) = false := by rw [h1]; rfl
          have f2 : decide ((0 : Int) ≤ x.2) = true := by simp; omega
          have f3 : decide (x.2 < (t : Int)) = true := by simp; omega
          have hok := Lib.hid (show okB t d x = true from okB_iff.2 (.inl ⟨h1, h2, h3⟩))
          clear h1 h2 h3
          go_wp2_with fail
          go_meet
          exact ⟨by rw [hok.out], rfl⟩
        · have f1 : (x.1 == 1) = true := by rw [h1]; rfl
          have f4 : (x.1 == 2) = false := by rw [h1]; rfl
          have f2 : decide ((0 : Int) ≤ x.2) = false := by simp; omega
          have hok := Lib.hid (show okB t d x = false by rw [← Bool.not_eq_true, okB_iff]; omega)
          clear h1 h2
          go_wp2_with fail
          go_meet
          exact ⟨by rw [hok.out], rfl⟩
        · have f1 : (x.1 == 1) = true := by rw [h1]; rfl
          have f4 : (x.1 == 2) = false := by rw [h1]; rfl
          have f2 : decide ((0 : Int) ≤ x.2) = true := by simp; omega
          have f3 : decide (x.2 < (t : Int)) = false := by simp; omega
          have hok := Lib.hid (show okB t d x = false by rw [← Bool.not_eq_true, okB_iff]; omega)
          clear h1 h2 h3
          go_wp2_with fail
          go_meet
          exact ⟨by rw [hok.out], rfl⟩
        · have f1 : (x.1 == 1) = false := by rw [h1]; rfl
          have f4 : (x.1 == 2) = true := by rw [h1]; rfl
          have f2 : decide ((0 : Int) ≤ x.2) = true := by simp; omega
          have f5 : decide (x.2 < (d : Int)) = true := by simp; omega
          have hok := Lib.hid (show okB t d x = true from okB_iff.2 (.inr ⟨h1, h2, h3⟩))
          clear h1 h2 h3
          go_wp2_with fail
          go_meet
          exact ⟨by rw [hok.out], rfl⟩
        · have f1 : (x.1 == 1) = false := by rw [h1]; rfl
          have f4 : (x.1 == 2) = true := by rw [h1]; rfl
          have f2 : decide ((0 : Int) ≤ x.2) = false := by simp; omega
          have hok := Lib.hid (show okB t d x = false by rw [← Bool.not_eq_true, okB_iff]; omega)
          clear h1 h2
          go_wp2_with fail
          go_meet
          exact ⟨by rw [hok.out], rfl⟩
        · have f1 : (x.1 == 1) = false := by rw [h1]; rfl
          have f4 : (x.1 == 2) = true := by rw [h1]; rfl
          have f2 : decide ((0 : Int) ≤ x.2) = true := by simp; omega
          have f5 : decide (x.2 < (d : Int)) = false := by simp; omega
          have hok := Lib.hid (show okB t d x = false by rw [← Bool.not_eq_true, okB_iff]; omega)
          clear h1 h2 h3
          go_wp2_with fail
          go_meet
          exact ⟨by rw [hok.out], rfl⟩
        · have f1 : (x.1 == 1) = false := by rw [beq_eq_false_iff_ne]; exact h1
          have f4 : (x.1 == 2) = false := by rw [beq_eq_false_iff_ne]; exact h2
          have f2 : decide ((0 : Int) ≤ x.2) = false := by simp; omega
          have hok := Lib.hid (show okB t d x = false by rw [← Bool.not_eq_true, okB_iff]; omega)
          clear h1 h2 h3
          go_wp2_with fail
          go_meet
          exact ⟨by rw [hok.out], rfl⟩
        · have f1 : (x.1 == 1) = false := by rw [beq_eq_false_iff_ne]; exact h1
          have f4 : (x.1 == 2) = false := by rw [beq_eq_false_iff_ne]; exact h2
          have f2 : decide ((0 : Int) ≤ x.2) = true := by simp; omega
          have hok := Lib.hid (show okB t d x = false by rw [← Bool.not_eq_true, okB_iff]; omega)
          clear h1 h2 h3
          go_wp2_with fail
          go_meet
          exact ⟨by rw [hok.out], rfl⟩
      case rest =>
        obtain ⟨rfl, rfl⟩ := hcut
        have hp := pushQ_c S2.out.s x
        have hYn : ∀ o, ¬ quS q L M Y o := fun o hs => by have := hYl.out; rcases hs with h | h | h <;> omega
        replace hYn := Lib.hid hYn
        go_wp2_with fail
        refine hp.mono ?_
        rintro e w7 ⟨rfl, K, F⟩
        have S3 := Lib.hid (S2.out.op K F)
        have O3 := Lib.hid (O2.out.fr F (fun k o hk hs => by have h1 := (O2.out.lt k hk).1; have := hE.out; rcases hs with h | h | h <;> omega))
        have r0 := (u0.out.fr F (hYn.out _)).1; have r1 := (u1.out.fr F (hYn.out _)).1
        have hE3 := Lib.hid (Nat.le_trans hE2.out F.size)
        clear K F hp v0 v1 S2 O2 u0 u1 hE2
        have hcs : (okB t d x = false ∧ pushB t d mo T x = false) ∨ (okB t d x = true ∧ had = true ∧ pushB t d mo T x = false) ∨ (okB t d x = true ∧ had = false ∧ x.1 = 1 ∧ pushB t d mo T x = true) ∨ (okB t d x = true ∧ had = false ∧ x.1 = 2 ∧ hn < mo ∧ pushB t d mo T x = true) ∨ (okB t d x = true ∧ had = false ∧ x.1 = 2 ∧ mo ≤ hn ∧ pushB t d mo T x = false) := by
          rw [hhad.out, hhn.out]
          cases ho : okB t d x with
          | false => exact .inl ⟨rfl, by unfold pushB; rw [ho]; rfl⟩
          | true =>
            refine .inr ?_
            by_cases hx : x ∈ T
            · exact .inl ⟨rfl, decide_eq_true hx, by unfold pushB; rw [decide_eq_true hx]; simp⟩
            · refine .inr ?_
              rcases okB_iff.1 ho with ⟨h1, _⟩ | ⟨h1, _⟩
              · exact .inl ⟨rfl, decide_eq_false hx, h1, by unfold pushB; rw [ho, decide_eq_false hx, h1]; rfl⟩
              · refine .inr ?_
                by_cases hm : mo ≤ heldT T
                · exact .inr ⟨rfl, decide_eq_false hx, h1, hm, by unfold pushB; rw [ho, decide_eq_false hx, h1, decide_eq_true hm]; rfl⟩
                · exact .inl ⟨rfl, decide_eq_false hx, h1, by omega, by unfold pushB; rw [ho, decide_eq_false hx, h1, decide_eq_false hm]; rfl⟩
        rcases hcs with ⟨h1, h2⟩ | ⟨h1, h2, h3⟩ | ⟨h1, h2, h3, h4⟩ | ⟨h1, h2, h3, h4, h5⟩ | ⟨h1, h2, h3, h4, h5⟩
        · rw [h1, h2]
          clear h1 h2
          go_wp2
          go_roundw
          case rel => exact ⟨i + 1, _, by go_num, S3, O3, hsub, Lib.hid (by omega), hE3⟩
          case measure => simp [intOf]; omega
        · rw [h1, h2, h3]
          clear h1 h3
          go_wp2
          go_roundw
          case rel => exact ⟨i + 1, _, by go_num, S3, O3, hsub, Lib.hid (by omega), hE3⟩
          case measure => simp [intOf]; omega
        · rw [h1, h2, h4]
          rw [h3] at r0
          clear h1 h4
          go_wp2
          go_roundw
          case rel => exact ⟨i + 1, _, by go_num, S3, O3, hsub, Lib.hid (by omega), hE3⟩
          case measure => simp [intOf]; omega
        · rw [h1, h2, h5]
          rw [h3] at r0
          have d1 : decide ((hn : Int) < (mo : Int)) = true := by simp; omega
          clear h1 h5
          go_wp2
          go_roundw
          case rel => exact ⟨i + 1, _, by go_num, S3, O3, hsub, Lib.hid (by omega), hE3⟩
          case measure => simp [intOf]; omega
        · rw [h1, h2, h5]
          rw [h3] at r0
          have d1 : decide ((hn : Int) < (mo : Int)) = false := by simp; omega
          clear h1 h5
          go_wp2
          go_roundw
          case rel => exact ⟨i + 1, _, by go_num, S3, O3, hsub, Lib.hid (by omega), hE3⟩
          case measure => simp [intOf]; omega
    · have hs2 := Lib.hid (show ∀ y ∈ T, y ∈ XS from fun y hy => List.mem_of_mem_take (hs.out y hy))
      go_wp2_with fail
      clear hlt hi hs
      go_loopw [109] (fun ii wr => ∃ (i : Nat) (T : List Th), ii = .int .i64 i ∧ Hid (StQ w wr q p L M t d mo T) ∧ Hid (OwnE thE wr E (.slice (some ⟨E, 0, none⟩) 0 0) []) ∧ Hid (∀ y ∈ T, y ∈ XS) ∧ Hid (i ≤ ys.length) ∧ Hid (E ≤ wr.heap.size)) (fun ii _ => ys.length - (intOf ii).toNat)
      case atStart => exact ⟨0, T, rfl, S, O, hs2, Lib.hid (Nat.zero_le _), hEs⟩
      case round =>
        clear S O hs2 hEs
        clear T
        obtain ⟨i, T, rfl, S, O, hs, hi, hEs⟩ := hrel
        by_cases hlt : i < ys.length
        · have hi61 : i < 61 := by have := b2.out; omega
          obtain ⟨b, off, rfl, hbl, hc⟩ := HR1.out i hlt
          have hz0 := (S.out.b.cell (p := ⟨b, off + i * 2 + 0, none⟩) hbl).trans (hc 0 _ rfl)
          have hz1 := (S.out.b.cell (p := ⟨b, off + i * 2 + 1, none⟩) hbl).trans (hc 1 _ rfl)
          rw [Nat.add_zero] at hz0
          obtain ⟨x, hx⟩ : ∃ x : Th, x = (ys[i].kind, ys[i].index) := ⟨_, rfl⟩
          have hx1 : ys[i].kind = x.1 := by rw [hx]
          have hx2 : ys[i].index = x.2 := by rw [hx]
          rw [hx1] at hz0
          rw [hx2] at hz1
          clear hc hbl hx hx1 hx2
          have hB0 := Below.alloc (Below.refl wr.heap.size wr) (Nat.le_refl _) (.cells #[.int .i64 x.1, .int .i64 x.2] 27)
          have S1 := Lib.hid (S.out.below hB0)
          have O1 := Lib.hid (O.out.below hB0)
          have y0 := Lib.hid (Cel.new wr #[.int .i64 x.1, .int .i64 x.2] 27 0 _ rfl)
          have y1 := Lib.hid (Cel.new wr #[.int .i64 x.1, .int .i64 x.2] 27 1 _ rfl)
          have hYl := Lib.hid S.out.s.lt
          have hE1 := Lib.hid (Nat.le_trans hEs.out hB0.size)
          have hnd := Lib.hid S.out.s.nd
          clear S O hB0 hEs
          go_wp2_with fail
          generalize wr.alloc (.cells #[.int .i64 x.1, .int .i64 x.2] 27) = wz at *
          generalize wr.heap.size = Y at *
          refine (hasQ_c S1.out.s x).mono ?_
          rintro e w5 ⟨rfl, F⟩
          have S2 := Lib.hid (S1.out.below F)
          have O2 := Lib.hid (O1.out.below F)
          have hE2 := Lib.hid (Nat.le_trans hE1.out F.size)
          have u0 := Lib.hid (y0.out.low F y0.out.lt); have u1 := Lib.hid (y1.out.low F y1.out.lt)
          have v0 := u0.out.1; have v1 := u1.out.1
          clear F S1 O1 hE1 y0 y1 hz0 hz1
          go_wp2_with fail
          refine (dropQ_c S2.out.s x).mono ?_
          rintro e w7 ⟨rfl, K, F⟩
          have hYn : ∀ o, ¬ quS q L M Y o := fun o hs => by have := hYl.out; rcases hs with h | h | h <;> omega
          have S3 := Lib.hid (S2.out.op K F)
          have O3 := Lib.hid (O2.out.fr F (fun k o hk hs => by have h1 := (O2.out.lt k hk).1; have := hE.out; rcases hs with h | h | h <;> omega))
          have r0 := (u0.out.fr F (hYn _)).1; have r1 := (u1.out.fr F (hYn _)).1
          have hE3 := Lib.hid (Nat.le_trans hE2.out F.size)
          clear K F v0 v1 S2 O2 u0 u1 hE2 hYn
          generalize decide (x ∈ T) = had at *
          go_wp2_with fail
          refine (hasQ_c S3.out.s x).mono ?_
          rintro e w8 ⟨rfl, F⟩
          have S4 := Lib.hid (S3.out.below F)
          have O4 := Lib.hid (O3.out.below F)
          have hE4 := Lib.hid (Nat.le_trans hE3.out F.size)
          rw [show decide (x ∈ T.erase x) = false from decide_eq_false (by rw [hnd.out.mem_erase_iff]; exact fun h => h.1 rfl)]
          have hs4 := Lib.hid (show ∀ y ∈ T.erase x, y ∈ XS from fun y hy => hs.out y (List.mem_of_mem_erase hy))
          clear F S3 O3 hE3 r0 r1
          go_wp2
          go_roundw
          case rel => exact ⟨i + 1, _, by go_num, S4, O4, hs4, Lib.hid (by omega), hE4⟩
          case measure => simp [intOf]; omega
        · go_wp2_with fail
          clear hlt hi
          go_loopw [12, 129] (fun v ii wr => ∃ (i : Nat) (W : List Th), ii = .int .i64 i ∧ Hid (StQ w wr q p L M t d mo T) ∧ Hid (OwnE thE wr E v W) ∧ Hid (W.Nodup) ∧ Hid (∀ y, y ∈ W ↔ (y ∈ XS.take i ∧ y ∈ T)) ∧ Hid (W.length ≤ i) ∧ Hid (i ≤ xs.length) ∧ Hid (E ≤ wr.heap.size)) (fun _ ii _ => xs.length - (intOf ii).toNat)
          case atStart => exact ⟨0, [], rfl, S, O, Lib.hid List.nodup_nil, Lib.hid (fun y => by simp), Lib.hid (Nat.le_refl _), Lib.hid (Nat.zero_le _), hEs⟩
          case round =>
            clear S O hEs
            obtain ⟨i, W, rfl, S, O, hWn, hWm, hWl, hi, hEs⟩ := hrel
            by_cases hlt : i < xs.length
            · have hi61 : i < 61 := by have := b1.out; omega
              obtain ⟨b, off, rfl, hbl, hc⟩ := HR.out i hlt
              have hz0 := (S.out.b.cell (p := ⟨b, off + i * 2 + 0, none⟩) hbl).trans (hc 0 _ rfl)
              have hz1 := (S.out.b.cell (p := ⟨b, off + i * 2 + 1, none⟩) hbl).trans (hc 1 _ rfl)
              rw [Nat.add_zero] at hz0
              obtain ⟨x, hx⟩ : ∃ x : Th, x = (xs[i].kind, xs[i].index) := ⟨_, rfl⟩
              have hx1 : xs[i].kind = x.1 := by rw [hx]
              have hx2 : xs[i].index = x.2 := by rw [hx]
              rw [hx1] at hz0
              rw [hx2] at hz1
              have hXx : Hid (XS.take (i + 1) = XS.take i ++ [x]) := Lib.hid (by rw [hx, ← hXi.out i hlt]; simp)
              clear hc hbl hx hx1 hx2
              have hB0 := Below.alloc (Below.refl wr.heap.size wr) (Nat.le_refl _) (.cells #[.int .i64 x.1, .int .i64 x.2] 27)
              have S1 := Lib.hid (S.out.below hB0)
              have O1 := Lib.hid (O.out.below hB0)
              have y0 := Lib.hid (Cel.new wr #[.int .i64 x.1, .int .i64 x.2] 27 0 _ rfl)
              have y1 := Lib.hid (Cel.new wr #[.int .i64 x.1, .int .i64 x.2] 27 1 _ rfl)
              have hE1 := Lib.hid (Nat.le_trans hEs.out hB0.size)
              have hYE := Lib.hid hEs.out
              clear S O hB0 hEs
              go_wp2_with fail
              generalize wr.alloc (.cells #[.int .i64 x.1, .int .i64 x.2] 27) = wz at *
              generalize wr.heap.size = Y at *
              refine (hasQ_c S1.out.s x).mono ?_
              rintro e w5 ⟨rfl, F⟩
              have S2 := Lib.hid (S1.out.below F)
              have O2 := Lib.hid (O1.out.below F)
              have hE2 := Lib.hid (Nat.le_trans hE1.out F.size)
              have u0 := Lib.hid (y0.out.low F y0.out.lt); have u1 := Lib.hid (y1.out.low F y1.out.lt)
              clear F S1 O1 hE1 y0 y1 hz0 hz1
              by_cases hxT : x ∈ T
              · rw [decide_eq_true hxT]
                replace hxT := Lib.hid hxT
                obtain ⟨A, c, rfl, _⟩ := O2.out.slice
                go_wp2_with fail
                go_loopw [23, 138] (fun sv kk wr2 => ∃ (k : Nat), kk = .int .i64 k ∧ sv = .bool (decide (x ∈ W.take k)) ∧ Hid (Below w5.heap.size w5 wr2) ∧ Hid (k ≤ W.length)) (fun _ kk _ => W.length - (intOf kk).toNat)
                case atStart => exact ⟨0, rfl, by rw [List.take_zero]; rfl, Lib.hid (Below.refl _ _), Lib.hid (Nat.zero_le _)⟩
                case round =>
                  obtain ⟨k, rfl, rfl, F, hk⟩ := hrel
                  have S3 := Lib.hid (S2.out.below F.out)
                  have O3 := Lib.hid (O2.out.below F.out)
                  have u30 := Lib.hid (u0.out.low F.out u0.out.lt); have u31 := Lib.hid (u1.out.low F.out u1.out.lt)
                  by_cases hkl : k < W.length
                  · have hk61 : k < 61 := by have := hWl.out; omega
                    obtain ⟨g, c', e, hgE, hgs, _⟩ := O3.out.pos (by omega)
                    injection e with e1 e2 e3
                    subst e1; subst e3
                    have hgl : g < wr.heap.size := hgs
                    obtain ⟨⟨k0, -⟩, ⟨k1, -⟩⟩ := O3.out.atT hkl
                    have hts : W.take (k + 1) = W.take k ++ [W[k]] := List.take_succ_eq_append_getElem hkl
                    generalize W[k] = y at *
                    have hB0 := Below.alloc (Below.refl wr.heap.size wr) (Nat.le_refl _) (.cells #[.int .i64 y.1, .int .i64 y.2] 27)
                    have F2 := Lib.hid (F.out.trans (hB0.mono F.out.size))
                    have t0 := (u30.out.alloc (.cells #[.int .i64 y.1, .int .i64 y.2] 27)).1; have t1 := (u31.out.alloc (.cells #[.int .i64 y.1, .int .i64 y.2] 27)).1
                    have hst : decide (x ∈ W.take (k + 1)) = (decide (x ∈ W.take k) || decide (y = x)) := by
                      rw [hts, Bool.eq_iff_iff, Bool.or_eq_true, decide_eq_true_eq, decide_eq_true_eq, decide_eq_true_eq, List.mem_append, List.mem_singleton]; exact or_congr Iff.rfl eq_comm
                    replace hst := Lib.hid hst
                    clear hB0 e2 hts
                    cases hsn : decide (x ∈ W.take k) with
                    | true =>
                      rw [hsn] at hst
                      clear hsn
                      go_wp2
                      go_roundw
                      case rel => exact ⟨k + 1, by go_num, by rw [hst.out]; rfl, F2, Lib.hid (by omega)⟩
                      case measure => simp [intOf]; omega
                    | false =>
                      rw [hsn] at hst
                      clear hsn
                      by_cases hyx : y = x
                      · have heq := eqThT hyx
                        rw [decide_eq_true hyx] at hst
                        replace hyx := Lib.hid hyx
                        go_wp2
                        go_roundw
                        case rel => exact ⟨k + 1, by go_num, by rw [hst.out]; rfl, F2, Lib.hid (by omega)⟩
                        case measure => simp [intOf]; omega
                      · have heq := eqThF hyx
                        rw [decide_eq_false hyx] at hst
                        replace hyx := Lib.hid hyx
                        go_wp2
                        go_roundw
                        case rel => exact ⟨k + 1, by go_num, by rw [hst.out]; rfl, F2, Lib.hid (by omega)⟩
                        case measure => simp [intOf]; omega
                  · have hkW : W.take k = W := List.take_of_length_le (by omega)
                    rw [hkW]
                    have hE3 := Lib.hid (Nat.le_trans hE2.out F.out.size)
                    clear hkW
                    by_cases hxW : x ∈ W
                    · rw [decide_eq_true hxW]
                      have hm2 := Lib.hid (show ∀ y, y ∈ W ↔ (y ∈ XS.take (i + 1) ∧ y ∈ T) from fun y => by
                        rw [hXx.out, hWm.out y, List.mem_append]
                        constructor
                        · exact fun h => ⟨.inl h.1, h.2⟩
                        · rintro ⟨h1 | h1, h2⟩
                          · exact ⟨h1, h2⟩
                          · simp at h1; subst h1; exact (hWm.out y).1 hxW)
                      clear hxW
                      go_wp2
                      go_roundw
                      case rel => exact ⟨i + 1, W, by go_num, S3, O3, hWn, hm2, Lib.hid (by have := hWl.out; omega), Lib.hid (by omega), hE3⟩
                      case measure => simp [intOf]; omega
                    · rw [decide_eq_false hxW]
                      have hm2 := Lib.hid (show ∀ y, y ∈ W ++ [x] ↔ (y ∈ XS.take (i + 1) ∧ y ∈ T) from fun y => by
                        rw [hXx.out, List.mem_append, hWm.out y, List.mem_append]
                        constructor
                        · rintro (h | h)
                          · exact ⟨.inl h.1, h.2⟩
                          · simp at h; subst h; exact ⟨.inr (by simp), hxT.out⟩
                        · rintro ⟨h1 | h1, h2⟩
                          · exact .inl ⟨h1, h2⟩
                          · exact .inr h1)
                      have hn2 := Lib.hid (show (W ++ [x]).Nodup from List.nodup_append.2 ⟨hWn.out, by simp, fun a ha b hb => by simp at hb; subst hb; intro e; subst e; exact hxW ha⟩)
                      have v0 := u30.out.1; have v1 := u31.out.1
                      have htl := Lib.hid (show W.length ≤ 100000 by have := hWl.out; omega)
                      have Q2 := Lib.hid (rowAt_new1 (E := thE) (B := wr.heap.size) wr #[.int .i64 x.1, .int .i64 x.2] 27 x rfl rfl)
                      have hBa := Below.alloc (Below.refl wr.heap.size wr) (Nat.le_refl _) (.cells #[.int .i64 x.1, .int .i64 x.2] 27)
                      have S4 := Lib.hid (S3.out.below hBa)
                      have hE4 := Lib.hid (Nat.le_trans hE3.out hBa.size)
                      clear hxW hBa
                      go_wp2_with (first | (at_builtin; refine append_rowE (E := thE) (ys := [x]) rfl rfl Try.underlying22 rfl (O3.out.alloc _) rfl Q2.out rfl (Nat.le_trans htl.out (by decide)) (by simp) hE4.out ?_))
                      intro v' w6 G1 G2 G3 G4
                      have G := Lib.hid (show OwnE thE w6 E v' (W ++ [x]) from G1)
                      have S5 := Lib.hid (S4.out.low G2 hE.out.1 hE.out.2)
                      have hE5 := Lib.hid (Nat.le_trans hE4.out G2.size)
                      clear G1 G2 G3 G4 S4 Q2 O3 v0 v1 S3
                      go_wp2
                      go_roundw
                      case rel => exact ⟨i + 1, _, by go_num, S5, G, hn2, hm2, Lib.hid (by have := hWl.out; simp; omega), Lib.hid (by omega), hE5⟩
                      case measure => simp [intOf]; omega
              · rw [decide_eq_false hxT]
                have hm2 := Lib.hid (show ∀ y, y ∈ W ↔ (y ∈ XS.take (i + 1) ∧ y ∈ T) from fun y => by
                  rw [hXx.out, hWm.out y, List.mem_append]
                  constructor
                  · exact fun h => ⟨.inl h.1, h.2⟩
                  · rintro ⟨h1 | h1, h2⟩
                    · exact ⟨h1, h2⟩
                    · simp at h1; subst h1; exact absurd h2 hxT)
                clear hxT
                go_wp2
                go_roundw
                case rel => exact ⟨i + 1, W, by go_num, S2, O2, hWn, hm2, Lib.hid (by have := hWl.out; omega), Lib.hid (by omega), hE2⟩
                case measure => simp [intOf]; omega
            · have hlen := Lib.hid (show T.length = W.length from same_len S.out.s.nd hWn.out (fun y => by
                rw [hWm.out y, List.take_of_length_le (by rw [hXl.out]; omega)]
                exact ⟨fun h => h.2, fun h => ⟨hs.out y h, h⟩⟩))
              obtain ⟨A, c, rfl, _⟩ := O.out.slice
              go_wp2_with fail
              clear hlt
              refine (allQ_c S.out.s).mono ?_
              rintro e w5 ⟨v, rfl, OT, F⟩
              have S2 := Lib.hid (S.out.below F)
              obtain ⟨A2, c2, rfl, _⟩ := OT.slice
              replace OT := Lib.hid OT
              have en : ((T.length : Int) != (W.length : Int)) = false := by rw [hlen.out]; simp
              have hT60 := Lib.hid (show T.length ≤ 60 by rw [hlen.out]; have := hWl.out; have := hi.out; have := b1.out; omega)
              clear F S O
              go_wp2_with fail
              clear en
              go_loopw [27, 165] (fun nv kk wr2 => ∃ (k : Nat), kk = .int .i64 k ∧ nv = .int .i64 k ∧ Hid (Below w5.heap.size w5 wr2) ∧ Hid (k ≤ T.length)) (fun _ kk _ => T.length - (intOf kk).toNat)
              case atStart => exact ⟨0, rfl, rfl, Lib.hid (Below.refl _ _), Lib.hid (Nat.zero_le _)⟩
              case round =>
                obtain ⟨k, rfl, rfl, F, hk⟩ := hrel
                have S3 := Lib.hid (S2.out.below F.out)
                have O3 := Lib.hid (OT.out.below F.out)
                by_cases hkl : k < T.length
                · have hk61 : k < 61 := by have := hT60.out; omega
                  obtain ⟨g, c', e, hgE, hgs, _⟩ := O3.out.pos (by omega)
                  injection e with e1 e2 e3
                  subst e1; subst e3
                  have hgl : g < wr.heap.size := hgs
                  obtain ⟨⟨k0, -⟩, ⟨k1, -⟩⟩ := O3.out.atT hkl
                  have hmem := Lib.hid (List.getElem_mem hkl)
                  generalize T[k] = y at *
                  have hB0 := Below.alloc (Below.refl wr.heap.size wr) (Nat.le_refl _) (.cells #[.int .i64 y.1, .int .i64 y.2] 27)
                  have S4 := Lib.hid (S3.out.below hB0)
                  have F2 := Lib.hid (F.out.trans (hB0.mono F.out.size))
                  clear hB0 e2 S3 O3 F
                  go_wp2_with fail
                  generalize wr.alloc (.cells #[.int .i64 y.1, .int .i64 y.2] 27) = wz at *
                  refine (hasQ_c S4.out.s y).mono ?_
                  rintro e w6 ⟨rfl, F⟩
                  rw [decide_eq_true hmem.out]
                  have F3 := Lib.hid (F2.out.trans (F.mono F2.out.size))
                  clear F F2 S4
                  go_wp2
                  go_roundw
                  case rel => exact ⟨k + 1, by go_num, by go_num, F3, Lib.hid (by omega)⟩
                  case measure => simp [intOf]; omega
                · obtain rfl : k = T.length := by have := hk.out; omega
                  go_wp2_with fail
                  refine (lenQ_c S3.out.s).mono ?_
                  rintro e w6 ⟨rfl, rfl⟩
                  go_wp2
                  go_ret
                  exact ⟨by simp, S3.out.b⟩
end Go.Proofs.Ythapdlgaccfbfaa
