/- BoxSifts. -/
import Derived.Test.YtkpiphihmmhhpaaBor
import Derived.Test.YtkpiphihmmhhpaaBsf
namespace Go.Proofs.Ytkpiphihmmhhpaa
open Go.RowKit Go.Conc
set_option linter.unusedVariables false
set_option linter.unusedSimpArgs false
set_option maxRecDepth 100000

theorem OrS.mask {w wr : World} {B c cap E M : Nat} {v8 v9 : Value} {I U Q : List Int} {m : Value} (h : OrS w wr B c cap E v8 v9 I U Q) (hm : w.cell? ⟨M, 0, none⟩ = some m) (hM : M < w.heap.size) : wr.cell? ⟨M, 0, none⟩ = some m :=
  (h.s.b.cell (p := ⟨M, 0, none⟩) hM).trans hm

theorem filter_one (p : Int → Bool) (y : Int) : [y].filter p = if p y then [y] else [] := by cases h : p y <;> simp [h]

set_option maxHeartbeats 8000000 in
theorem sifts_walk (A : Option Addr) (cA : Nat) (xs : List Int) (m : Int) (w : World) (hr : RowAt (fun z : Int => [.int .i64 z]) 1 w A xs) :
    Calls Try.prog 13 #[.slice A xs.length cA, .int .i64 m] w fun e w' => e = .returned (.bool true) ∧ Below w.heap.size w w' := by
  have hmf : ∀ (fn : Fn) (first cap : Array Value) (w : World), (Instr.makeFunc fn first cap).run Try.prog w = .ok (.func fn first cap) w := fun _ _ _ _ => rfl
  have hM0 := cell_new1 w (.int .i64 m) 3
  have hB0 := (Below.refl w.heap.size w).alloc (Nat.le_refl _) (.cells #[.int .i64 m] 3)
  have HR := Lib.hid (hr.below hB0)
  have HB0 := Lib.hid hB0
  have hMs := Lib.hid (show w.heap.size < (w.alloc (.cells #[.int .i64 m] 3)).heap.size by simp)
  obtain ⟨p, hp⟩ : ∃ p : Int → Bool, p = fun y => decide (bits .and .i64 y m = 0) := ⟨_, rfl⟩
  replace hp := Lib.hid hp
  clear hr hB0
  by_cases hbig : 60 < xs.length
  · have hb1 : decide ((60 : Int) < (xs.length : Int)) = true := by simp; omega
    go_enter Try.func13, Try.ntmps13
    go_wp2_with fail
    refine (alive10_c _).mono ?_
    rintro e w1 ⟨rfl, hB1⟩
    have HB1 := Lib.hid (HB0.out.trans (hB1.mono HB0.out.size))
    clear hB1
    go_wp2
    go_ret
    exact ⟨rfl, HB1.out⟩
  have hb1 : decide ((60 : Int) < (xs.length : Int)) = false := by simp; omega
  replace hbig := Lib.hid hbig
  go_enter Try.func13, Try.ntmps13
  go_wp2_with fail
  generalize w.alloc (.cells #[.int .i64 m] 3) = W0 at *
  generalize hMe : w.heap.size = M at *
  replace hM0 := Lib.hid hM0
  refine (alive10_c W0).mono ?_
  rintro e w1 ⟨rfl, hB1⟩
  have HB1 := Lib.hid hB1
  clear hB1
  go_wp2_with fail
  refine (new_int w1 xs.length (cap := xs.length) (by have := hbig.out; unfold capN; omega)).mono ?_
  rintro e w2 ⟨B, c, rfl, S, l1, l2, F⟩
  have S0 : OneB W0 w2 B c xs.length (([] : List Int).map (Value.int .i64)) := ⟨S, by have := HB1.out.size; omega, HB1.out.trans (F.mono HB1.out.size)⟩
  have O1 := OwnI.lit w2 w2.heap.size (Nat.le_refl _) [] #[] rfl (by simp)
  have B0 := Below.alloc (Below.refl w2.heap.size w2) (Nat.le_refl _) (.cells #[] 3)
  have T1 : Hid (OrS W0 (w2.alloc (.cells #[] 3)) B c xs.length w2.heap.size (.slice (some ⟨w2.heap.size, 0, none⟩) 0 0) (.slice none 0 0) [] [] []) :=
    Lib.hid ⟨S0.below B0, O1, OwnI.nil _ _, by simp [Value.ownBlock], by have := S0.s.lt; have := S0.b.size; simp; omega⟩
  clear S l1 l2 F S0 O1 B0 HB1
  go_wp2_with fail
  generalize w2.alloc (.cells #[] 3) = W2 at *
  generalize w2.heap.size = E at *
  go_loopw [6, 21] (fun v6 ii wr => ∃ i : Nat, ii = .int .i64 i ∧ Hid (OrS W0 wr B c xs.length E v6 (.slice none 0 0) ((xs.take i).filter p) [] (xs.take i)) ∧ Hid (i ≤ xs.length)) (fun _ ii _ => xs.length - (intOf ii).toNat)
  case atStart => exact ⟨0, rfl, T1, Lib.hid (Nat.zero_le _)⟩
  case round =>
    clear T1
    obtain ⟨i, rfl, S, hi⟩ := hrel
    by_cases hlt : i < xs.length
    · have hi61 : i < 61 := by have := hbig.out; omega
      obtain ⟨b, off, rfl, hbl, hc⟩ := HR.out i hlt
      have hz0 := (S.out.s.b.cell (p := ⟨b, off + i * 1 + 0, none⟩) hbl).trans (hc 0 _ rfl)
      rw [Nat.add_zero, Nat.mul_one] at hz0
      have htk : xs.take (i + 1) = xs.take i ++ [xs[i]] := List.take_succ_eq_append_getElem hlt
      obtain ⟨y, hy⟩ : ∃ y, y = xs[i] := ⟨_, rfl⟩
      rw [← hy] at hz0 htk
      obtain ⟨Q, hQ⟩ : ∃ Q, Q = xs.take i := ⟨_, rfl⟩
      have hlQ : Q.length = i := by rw [hQ, List.length_take]; omega
      have htk2 : (xs.take (i + 1)).filter p = Q.filter p ++ (if p y then [y] else []) := by rw [htk, List.filter_append, ← hQ, filter_one]
      rw [← hQ] at S htk
      have hd : decide ((Q.map (Value.int .i64)).length < xs.length) = true := by simp; omega
      have hlF : (Q.filter p).length ≤ 100000000 := by have := List.length_filter_le p Q; omega
      obtain ⟨q, hq⟩ : ∃ q, bits .and .i64 y m = q := ⟨_, rfl⟩
      have hq0 : (q == 0) = p y := by rw [hp.out, ← hq, Bool.eq_iff_iff]; simp
      generalize Q.filter p = G at *
      obtain ⟨A8, c8, rfl⟩ := S.out.i.slice
      replace htk := Lib.hid htk; replace htk2 := Lib.hid htk2; replace hlF := Lib.hid hlF
      replace hlQ := Lib.hid hlQ; replace hlt := Lib.hid hlt
      replace hq := Lib.hid hq; replace hd := Lib.hid hd; replace hq0 := Lib.hid hq0
      clear hc hbl hy hQ
      go_wp2_with fail
      refine (post_int S.out.s.s y).mono ?_
      rintro e w3 ⟨rfl, K, F⟩
      rw [if_pos (by simpa using hd.out)] at K
      have S2 := Lib.hid (S.out.op (Q' := Q ++ [y]) (by simpa using K) F)
      rw [hd.out]
      clear K F S hz0
      have hm2 := S2.out.mask hM0.out hMs.out
      have hq1 := hq.out
      have hq2 := hq0.out
      cases hpy : p y with
      | true =>
        rw [hpy] at hq2
        have h3 := htk2.out
        rw [hpy, if_pos rfl] at h3
        replace h3 := Lib.hid h3; replace hpy := Lib.hid hpy
        go_wp2_with (first | (at_builtin; refine append_int rfl rfl Try.underlying37 rfl (S2.out.i.alloc _) rfl (cell_new1 _ _ _) hlF.out (by have := S2.out.e; simp; omega) ?_) | fail)
        intro v8 w4 P1 P2 P3 P4
        have S3 := Lib.hid ((S2.out.alloc (.cells #[.int .i64 y] 3)).grow8 P1 P3 (by simpa using P4))
        clear P1 P2 P3 P4 S2
        go_wp2
        go_roundw
        case rel => exact ⟨i + 1, by go_num, Lib.hid (by rw [htk.out, ← htk.out, h3.out, htk.out]; exact S3.out), Lib.hid (by have := hlt.out; omega)⟩
        case measure => have := hlt.out; simp [intOf]; omega
      | false =>
        rw [hpy] at hq2
        have h3 := htk2.out
        rw [hpy, if_neg (by decide), List.append_nil] at h3
        replace h3 := Lib.hid h3; replace hpy := Lib.hid hpy
        go_wp2
        go_roundw
        case rel => exact ⟨i + 1, by go_num, Lib.hid (by rw [h3.out, htk.out]; exact S2.out), Lib.hid (by have := hlt.out; omega)⟩
        case measure => have := hlt.out; simp [intOf]; omega
    · obtain rfl : i = xs.length := by have := hi.out; omega
      rw [List.take_length] at S
      have hge : ¬ ((xs.length : Int) < (xs.length : Int)) := by omega
      have hlF := List.length_filter_le p xs
      obtain ⟨G, hG⟩ : ∃ G, G = xs.filter p := ⟨_, rfl⟩
      rw [← hG] at S hlF
      obtain ⟨A8, c8, rfl⟩ := S.out.i.slice
      obtain ⟨n, hn⟩ : ∃ n, n = xs.length - G.length := ⟨_, rfl⟩
      have hl60 : xs.length ≤ 60 := by have := hbig.out; omega
      have e1 : ((n : Int) != (xs.length : Int) - (G.length : Int)) = false := by simp; omega
      have hnH := Lib.hid hn; have hlFH := Lib.hid hlF; have hl60H := Lib.hid hl60
      replace hG := Lib.hid hG
      have hl6 : G.length ≤ 60 := by omega
      have hl7 : n ≤ 60 := by omega
      have hd : decide ((xs.map (Value.int .i64)).length < xs.length) = false := by simp
      clear hn hi hlt
      replace e1 := Lib.hid e1; replace hlF := Lib.hid hlF
      go_wp2_with fail
      refine (post_int S.out.s.s 1).mono ?_
      rintro e w3 ⟨rfl, K, F⟩
      rw [if_neg (by simp)] at K
      have S2 := Lib.hid (S.out.op (Q' := xs) K F)
      rw [hd]
      clear K F S hd
      have hm2 := Lib.hid (S2.out.mask hM0.out hMs.out)
      go_wp2_with fail
      refine (sift_sifts (p := p) (M := M) S2.out.s.s ⟨by have := S2.out.s.b.size; have := hMs.out; omega, by have := hMs.out; have := S2.out.s.lo; omega⟩ (fun w' hw' y => (clo_sifts (m := m) ((hw' 0).trans hm2.out) y).mono (fun e w2 h => by rw [hp.out]; exact h))).mono ?_
      rintro e w4 ⟨rfl, K, F⟩
      rw [← hG.out] at K ⊢
      rw [← hnH.out]
      have S3 := Lib.hid (S2.out.op (Q' := G) K F)
      clear K F S2 hm2
      have e2 := e1.out
      go_wp2_with fail
      refine (all_int S3.out.s.s).mono ?_
      rintro e w5 ⟨v, rfl, O, K, F⟩
      have S4 := Lib.hid (S3.out.op (Q' := G) K F)
      clear K F S3
      obtain ⟨A9, c9, rfl⟩ := O.slice
      replace O := Lib.hid O
      go_wp2_with fail
      refine (same_c (O.out.row).1 (S4.out.i.row).1 (by have := hl6; omega) (by have := hl6; omega)).mono ?_
      rintro e w6 ⟨rfl, F⟩
      have S5 := Lib.hid (S4.out.below F)
      clear F S4
      rw [decide_eq_true rfl]
      go_wp2_with fail
      refine (len_int S5.out.s.s).mono ?_
      rintro e w7 ⟨rfl, rfl⟩
      rw [List.length_map]
      go_wp2
      go_loopw [65] (fun ii wr => ∃ j : Nat, ii = .int .i64 j ∧ Hid (OneB W0 wr B c xs.length ((G ++ List.replicate j 0).map (Value.int .i64))) ∧ Hid (j ≤ n)) (fun ii _ => n - (intOf ii).toNat)
      case atStart => exact ⟨0, rfl, Lib.hid (by simpa using S5.out.s), Lib.hid (Nat.zero_le _)⟩
      case round =>
        clear S5 O
        obtain ⟨j, rfl, S, hj⟩ := hrel
        have hj60 : j ≤ 60 := by have := hj.out; omega
        by_cases hlt : j < n
        · have hd : decide (((G ++ List.replicate j 0).map (Value.int .i64)).length < xs.length) = true := by have := hnH.out; have := hlFH.out; simp; omega
          replace hd := Lib.hid hd
          go_wp2_with fail
          refine (post_int S.out.s 0).mono ?_
          rintro e w8 ⟨rfl, K, F⟩
          rw [if_pos (by simpa using hd.out)] at K
          rw [show List.map (Value.int .i64) (G ++ List.replicate j 0) ++ [Value.int .i64 0] = List.map (Value.int .i64) (G ++ List.replicate (j + 1) 0) by rw [List.replicate_succ']; simp] at K
          have S2 := Lib.hid (S.out.op K F)
          rw [hd.out]
          clear K F S
          go_wp2
          go_roundw
          case rel => exact ⟨j + 1, by go_num, S2, Lib.hid (by omega)⟩
          case measure => simp [intOf]; omega
        · obtain rfl : j = n := by have := hj.out; omega
          have hge2 : ¬ ((j : Int) < (j : Int)) := by omega
          have hlen : ((G ++ List.replicate j 0).map (Value.int .i64)).length = xs.length := by have := hnH.out; have := hlFH.out; simp; omega
          have hd : decide (((G ++ List.replicate j 0).map (Value.int .i64)).length < xs.length) = false := by rw [hlen]; simp
          replace hd := Lib.hid hd; replace hlen := Lib.hid hlen
          go_wp2_with fail
          refine (post_int S.out.s 0).mono ?_
          rintro e w8 ⟨rfl, K, F⟩
          rw [if_neg (by rw [hlen.out]; omega)] at K
          have S2 := Lib.hid (S.out.op K F)
          rw [hd.out]
          clear K F S
          go_wp2_with fail
          refine (len_int S2.out.s).mono ?_
          rintro e w9 ⟨rfl, rfl⟩
          rw [hlen.out]
          go_wp2
          go_ret
          exact ⟨rfl, by rw [hMe]; exact HB0.out.trans (S2.out.b.mono (Nat.le_of_lt hMs.out))⟩
end Go.Proofs.Ytkpiphihmmhhpaa
