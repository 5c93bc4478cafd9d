/- SplitTells. -/
import Derived.Test.YtamnibfaoikdbaaAl
namespace Go.Proofs.Ytamnibfaoikdbaa
open Go.RowKit
set_option linter.unusedVariables false
set_option linter.unusedSimpArgs false
set_option maxRecDepth 100000

theorem right_okT {xs : List En} (h : ∀ e ∈ xs, rightE e = true) : okT xs := by
  intro e he hk
  have := h e he
  unfold rightE at this
  rw [if_pos hk] at this
  simp only [Bool.and_eq_true, decide_eq_true_eq] at this
  exact ⟨this.1.1.1.1.1, this.1.1.1.1.2⟩
theorem filter_at (p : En → Bool) {xs : List En} {k : Nat} (hk : k < xs.length) (hp : p xs[k] = true) : ∃ h : ((xs.take k).filter p).length < (xs.filter p).length, (xs.filter p)[((xs.take k).filter p).length] = xs[k] := by
  have e : xs.filter p = (xs.take k).filter p ++ xs[k] :: (xs.drop (k + 1)).filter p := by
    conv => lhs; rw [← List.take_append_drop k xs, List.drop_eq_getElem_cons hk]
    rw [List.filter_append, List.filter_cons_of_pos hp]
  have h : ((xs.take k).filter p).length < (xs.filter p).length := by rw [e]; simp
  refine ⟨h, ?_⟩
  have : (xs.filter p)[((xs.take k).filter p).length]? = some xs[k] := by rw [e]; simp
  rw [List.getElem?_eq_getElem h] at this
  injection this
theorem filter_step (p : En → Bool) {xs : List En} {k : Nat} (hk : k < xs.length) : ((xs.take (k + 1)).filter p).length = ((xs.take k).filter p).length + (if p xs[k] = true then 1 else 0) := by
  rw [take_snoc hk, List.filter_append, List.length_append]
  congr 1
  by_cases h : p xs[k] = true
  · rw [List.filter_cons_of_pos h, if_pos h]; rfl
  · rw [List.filter_cons_of_neg h, if_neg h]; rfl

set_option maxHeartbeats 8000000 in
theorem tells_walk (A : Option Addr) (c : Nat) (xs : List En) (who : Int) (w : World) (hr : RowAt En.cells 9 w A xs) (hz : xs.length * 72 ≤ 140737488351232) :
    Calls Try.prog 6 #[.slice A xs.length c, .int .i64 who] w fun r w' => r = .returned (.bool true) ∧ Below w.heap.size w w' := by
  have HR := Lib.hid hr
  have hl : Hid (xs.length ≤ 10000000000000) := Lib.hid (by omega)
  clear hr hz
  go_enter Try.func6, Try.ntmps6
  go_wp2_with fail
  refine (alive18_c w).mono ?_
  rintro r w1 ⟨rfl, B1⟩
  have HR1 := Lib.hid (HR.out.below B1)
  replace B1 := Lib.hid B1
  go_wp2_with fail
  refine (right18_c HR1.out hl.out).mono ?_
  rintro r w2 ⟨rfl, F2⟩
  have HR2 := Lib.hid (HR1.out.below F2)
  have B2 := Lib.hid (B1.out.trans (F2.mono B1.out.size))
  clear F2 HR1
  cases hR : (decide (xs.length ≤ 60) && xs.all rightE)
  · go_wp2
    go_ret
    exact ⟨rfl, B2.out⟩
  · have h60 : xs.length ≤ 60 := by simp at hR; exact hR.1
    have hall : ∀ e ∈ xs, rightE e = true := by simp at hR; exact hR.2
    have hok := Lib.hid (right_okT hall)
    replace h60 := Lib.hid h60; replace hR := Lib.hid hR
    clear hall
    go_wp2_with fail
    refine (project_c HR2.out (by have := h60.out; omega) who).mono ?_
    rintro r w3 ⟨v3, rfl, P3, F3⟩
    have HR3 := Lib.hid (HR2.out.below F3)
    have B3 := Lib.hid (B2.out.trans (F3.mono B2.out.size))
    obtain ⟨Ap, cp, rfl, _⟩ := P3.slice
    have RP := P3.row.1
    replace RP := Lib.hid RP
    clear P3 F3 HR2
    go_wp2_with fail
    refine (others_c HR3.out (by have := h60.out; omega) who).mono ?_
    rintro r w4 ⟨v4, rfl, P4, F4⟩
    have HR4 := Lib.hid (HR3.out.below F4)
    have B4 := Lib.hid (B3.out.trans (F4.mono B3.out.size))
    obtain ⟨Ao, co, rfl, _⟩ := P4.slice
    have RO := P4.row.1
    replace RO := Lib.hid RO
    replace RP := Lib.hid (RP.out.below F4)
    clear P4 F4 HR3
    go_wp2_with fail
    go_loopw [7, 8, 24] (fun a b ii wr => ∃ k : Nat, ii = .int .i64 k ∧ a = .int .i64 (((xs.take k).filter (seesB who)).length : Nat) ∧ b = .int .i64 (((xs.take k).filter (blindB who)).length : Nat) ∧ Hid (k ≤ xs.length) ∧ Hid (Below w4.heap.size w4 wr)) (fun _ _ ii _ => xs.length - (intOf ii).toNat)
    case atStart => exact ⟨0, rfl, rfl, rfl, Lib.hid (Nat.zero_le _), Lib.hid (Below.refl _ _)⟩
    case round =>
      obtain ⟨k, rfl, rfl, rfl, hk, hB⟩ := hrel
      by_cases hlt : k < xs.length
      · have hk60 : k < 60 := by have := h60.out; omega
        obtain ⟨b, off, rfl, hbl, c0, c1, c2, c3, c4, c5, c6, c7, c8⟩ := HR4.out.en hlt
        rw [← hB.out.cell (p := ⟨b, _, none⟩) hbl] at c0 c1 c2 c3 c4 c5 c6 c7 c8
        obtain ⟨e, he⟩ : ∃ e, e = xs[k] := ⟨_, rfl⟩
        rw [← he] at c0 c1 c2 c3 c4 c5 c6 c7 c8
        replace he := Lib.hid he
        have s1 := filter_step (seesB who) hlt
        have s2 := filter_step (blindB who) hlt
        rw [← he.out] at s1 s2
        have hu1 := List.length_filter_le (seesB who) (xs.take k)
        have hu2 := List.length_filter_le (blindB who) (xs.take k)
        rw [List.length_take] at hu1 hu2
        replace s1 := Lib.hid s1; replace s2 := Lib.hid s2
        have u1 : ((((xs.take k).filter (seesB who)).length : Nat) : Int) ≤ 60 := by have := h60.out; omega
        have u2 : ((((xs.take k).filter (blindB who)).length : Nat) : Int) ≤ 60 := by have := h60.out; omega
        clear hu1 hu2
        go_wp2_with fail
        generalize hW : wr.alloc _ = W at *
        have y0 : RowAt En.cells 9 W (some ⟨wr.heap.size, 0, none⟩) [e] := by rw [← hW]; exact rowAt_new1 (E := enE) wr _ _ e rfl rfl
        have hBW : Below w4.heap.size w4 W := by rw [← hW]; exact Below.alloc hB.out hB.out.size _
        clear hW
        refine (sees_c W e who).mono ?_
        rintro r w5 ⟨rfl, F5⟩
        obtain ⟨q0, q1, q2, q3, q4, q5, q6, q7, q8⟩ := (y0.below F5).en0
        have hB5 := Lib.hid (hBW.trans (F5.mono hBW.size))
        clear y0 hBW F5 hB c0 c1 c2 c3 c4 c5 c6 c7 c8
        have heq := eq_enT (rfl : e = e)
        by_cases hs : seesB who e = true
        · obtain ⟨hlp, hgp⟩ := filter_at (seesB who) hlt (by rw [← he.out]; exact hs)
          obtain ⟨b', off', rfl, hbl', d0, d1, d2, d3, d4, d5, d6, d7, d8⟩ := RP.out.en hlp
          rw [hgp, ← he.out] at d0 d1 d2 d3 d4 d5 d6 d7 d8
          rw [← hB5.out.cell (p := ⟨b', _, none⟩) hbl'] at d0 d1 d2 d3 d4 d5 d6 d7 d8
          have s1' := s1.out
          have s2' := s2.out
          rw [if_pos hs] at s1'
          rw [if_neg (by simp [blindB, hs]), Nat.add_zero] at s2'
          replace s1' := Lib.hid s1'; replace s2' := Lib.hid s2'
          have t1 : decide ((xs.filter (seesB who)).length ≤ ((xs.take k).filter (seesB who)).length) = false := by simp; omega
          have t2 : (((xs.take k).filter (seesB who)).length : Int) < ((xs.filter (seesB who)).length : Int) := by omega
          rw [hs]
          replace hs := Lib.hid hs
          clear hgp hlp
          go_wp2_with fail
          go_quiet (fail)
          go_wp2
          exact ⟨⟨k + 1, by go_num, by rw [s1'.out]; rfl, by rw [s2'.out]; rfl, Lib.hid (by omega), Lib.hid (hB5.out.drewN _)⟩, by simp [intOf]; omega⟩
        · have hs0 : seesB who e = false := by simpa using hs
          have hbl : blindB who e = true := by simp [blindB, hs0]
          obtain ⟨hlp, hgp⟩ := filter_at (blindB who) hlt (by rw [← he.out]; exact hbl)
          obtain ⟨b', off', rfl, hbl', d0, d1, d2, d3, d4, d5, d6, d7, d8⟩ := RO.out.en hlp
          rw [hgp, ← he.out] at d0 d1 d2 d3 d4 d5 d6 d7 d8
          rw [← hB5.out.cell (p := ⟨b', _, none⟩) hbl'] at d0 d1 d2 d3 d4 d5 d6 d7 d8
          have s1' := s1.out
          have s2' := s2.out
          rw [if_neg hs, Nat.add_zero] at s1'
          rw [if_pos hbl] at s2'
          replace s1' := Lib.hid s1'; replace s2' := Lib.hid s2'
          have t1 : decide ((xs.filter (blindB who)).length ≤ ((xs.take k).filter (blindB who)).length) = false := by simp; omega
          have t2 : (((xs.take k).filter (blindB who)).length : Int) < ((xs.filter (blindB who)).length : Int) := by omega
          rw [hs0]
          clear hgp hlp hs hs0 hbl
          go_wp2_with fail
          go_quiet (fail)
          go_wp2
          exact ⟨⟨k + 1, by go_num, by rw [s1'.out]; rfl, by rw [s2'.out]; rfl, Lib.hid (by omega), Lib.hid (hB5.out.drewN _)⟩, by simp [intOf]; omega⟩
      · have he : xs.take k = xs := List.take_of_length_le (by omega)
        rw [he]
        have HR5 := HR4.out.below hB.out
        replace HR5 := Lib.hid HR5
        have hB5 := Lib.hid (B4.out.trans (hB.out.mono B4.out.size))
        clear he hB HR4 B4 RP RO
        have hl5 : xs.length ≤ 1000 := by have := h60.out; omega
        replace hl5 := Lib.hid hl5
        go_wp2_with fail
        refine (squeeze_c HR5.out (Nat.le_trans hl5.out (by decide)) hok.out).mono ?_
        rintro r w6 ⟨v6, rfl, P6, F6⟩
        have HR6 := Lib.hid (HR5.out.below F6)
        have hB6 := Lib.hid (hB5.out.trans (F6.mono hB5.out.size))
        obtain ⟨A6, c6, rfl, _⟩ := P6.slice
        have R6 := Lib.hid P6.row.1
        clear P6 F6 hB5 HR5
        go_wp2_with fail
        refine (squeeze18_c HR6.out hl5.out hok.out).mono ?_
        rintro r w7 ⟨v7, rfl, P7, F7⟩
        have HR7 := Lib.hid (HR6.out.below F7)
        have hB7 := Lib.hid (hB6.out.trans (F7.mono hB6.out.size))
        obtain ⟨A7, c7, rfl, _⟩ := P7.slice
        have R7 := Lib.hid P7.row.1
        replace R6 := Lib.hid (R6.out.below F7)
        have hsl : (sqGo 0 xs).length ≤ 100000 := by have := sq_len xs 0 hok.out; have := hl5.out; omega
        replace hsl := Lib.hid hsl
        clear P7 F7 hB6 HR6
        go_wp2_with fail
        refine (same15_c R6.out R7.out hsl.out hsl.out).mono ?_
        rintro r w8 ⟨rfl, F8⟩
        rw [decide_eq_true (rfl : sqGo 0 xs = sqGo 0 xs)]
        have HR8 := Lib.hid (HR7.out.below F8)
        have hB8 := Lib.hid (hB7.out.trans (F8.mono hB7.out.size))
        clear F8 hB7 HR7 R6 R7
        go_wp2_with fail
        refine (ticks_c HR8.out (Nat.le_trans hl5.out (by decide))).mono ?_
        rintro r w9 ⟨rfl, F9⟩
        have HR9 := Lib.hid (HR8.out.below F9)
        have hB9 := Lib.hid (hB8.out.trans (F9.mono hB8.out.size))
        clear F9 hB8 HR8
        go_wp2_with fail
        refine (ticks18_c HR9.out (Nat.le_trans hl5.out (by decide))).mono ?_
        rintro r w10 ⟨rfl, F10⟩
        have hB10 := Lib.hid (hB9.out.trans (F10.mono hB9.out.size))
        clear F10 hB9 HR9
        go_wp2
        go_ret
        exact ⟨by simp, hB10.out⟩
end Go.Proofs.Ytamnibfaoikdbaa
