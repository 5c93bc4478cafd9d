/- BitsWalks. -/
import Derived.Test.YtkogkimncoaboaaDoorTu2
import Derived.Test.YtkogkimncoaboaaDoorMapC
namespace Go.Proofs.YtkogkimncoaboaaDoor
open Go.RowKit
set_option linter.unusedVariables false
set_option linter.unusedSimpArgs false
set_option linter.unusedSectionVars false
set_option maxRecDepth 100000

theorem count_putB {X : List Bool} {k : Int} (h : putB X k = true) : (putL X k).count true = X.count true + 1 := by
  have h0 : 0 ≤ k := by
    by_cases h0 : 0 ≤ k
    · exact h0
    · rw [putB_neg (by omega)] at h; cases h
  obtain ⟨K, rfl⟩ := Int.eq_ofNat_of_zero_le h0
  have hk : K < X.length := by
    by_cases hk : K < X.length
    · exact hk
    · rw [putB_out (by omega)] at h; cases h
  have hh : hasB X (K : Int) = false := by rw [putB_has hk] at h; simpa using h
  rw [putL_yes hk hh, count_put hk hh]
/-- How many of the first c there are. -/
def cntT (X : List Bool) (c : Nat) : Nat := (X.take c).count true
theorem take_stepB {L : List Bool} {i : Nat} (h : i < L.length) : L.take (i + 1) = L.take i ++ [L[i]] := by simp
theorem cntT_zero (X : List Bool) : cntT X 0 = 0 := by unfold cntT; simp
theorem cntT_no {X : List Bool} : ∀ (d c : Nat), (∀ i (h : i < X.length), c ≤ i → i < c + d → X[i] ≠ true) → cntT X (c + d) = cntT X c
  | 0, c, h => rfl
  | d + 1, c, h => by
    rw [show c + (d + 1) = (c + d) + 1 by omega]
    have ih := cntT_no d c (fun i hi h1 h2 => h i hi h1 (by omega))
    by_cases hl : c + d < X.length
    · have hx := h (c + d) hl (by omega) (by omega)
      rw [← ih]
      unfold cntT
      rw [take_stepB hl, List.count_append]
      simp [hx]
    · rw [← ih]
      unfold cntT
      rw [List.take_of_length_le (by omega), List.take_of_length_le (by omega)]
theorem cntT_next {X : List Bool} {c j : Nat} (h : nextB X true c = some j) : cntT X (j + 1) = cntT X c + 1 := by
  obtain ⟨hj, h1, h2, h3⟩ := nextB_of h
  have e : cntT X j = cntT X c := by
    have := cntT_no (X := X) (j - c) c (fun i hi h4 h5 => h3 i hi h4 (by omega))
    rwa [show c + (j - c) = j by omega] at this
  rw [← e]
  unfold cntT
  rw [take_stepB hj, List.count_append]
  simp [h2]
theorem cntT_end {X : List Bool} {c : Nat} (h : nextB X true c = none) : cntT X c = X.count true := by
  have hn := nextB_no h
  by_cases hc : c ≤ X.length
  · have := cntT_no (X := X) (X.length - c) c (fun i hi h4 h5 => hn i hi h4)
    rw [show c + (X.length - c) = X.length by omega] at this
    rw [← this]; unfold cntT; rw [List.take_length]
  · unfold cntT; rw [List.take_of_length_le (by omega)]
theorem cntT_le (X : List Bool) (c : Nat) : cntT X c ≤ X.count true := by
  unfold cntT; exact (List.take_sublist c X).count_le true
/-- What the map holds. -/
def oneOf (D : List Int) (f : Int → Int) : Prop := ∀ x, f x = if x ∈ D then 1 else 0
theorem oneOf.start : oneOf [] (fun _ => 0) := fun x => by simp
theorem oneOf.step {D : List Int} {f : Int → Int} {k : Int} (h : oneOf D f) (hk : k ∉ D) : oneOf (D ++ [k]) (updC f k (f k + 1)) := fun x => by
  unfold updC
  by_cases hx : x = k
  · subst hx; rw [if_pos rfl, h x, if_neg hk]; simp
  · rw [if_neg hx, h x]; simp [hx]
theorem mem_of_at {n : Nat} {D : List Int} {j : Nat} (hj : j < n) (h : (ofS n (orI [] D))[j]'(by rw [ofS_len]; exact hj) = true) : (j : Int) ∈ D := by
  rw [ofS_at hj] at h; unfold orI memI at h; simpa using h

set_option maxHeartbeats 8000000 in
theorem walks2_walk (a : Int) (A0 : Option Addr) (c0 : Nat) (xs : List Int) (w : World) (hT : Tab w) (hr : RowAt (fun x : Int => [.int .i64 x]) 1 w A0 xs) (hg : ∀ x ∈ xs, (Lit.int .i64 x).wf = true) :
    Calls Tryd.prog 4 #[.int .i64 a, .slice A0 xs.length c0] w fun e w' => e = .returned (.bool true) ∧ Below w.heap.size w w' := by
  have HR := Lib.hid hr
  have HG := Lib.hid hg
  have HT := Lib.hid hT
  clear hr hg hT
  by_cases hbig : 60 < xs.length
  · have hb1 : decide ((60 : Int) < (xs.length : Int)) = true := by simp; omega
    go_enter Tryd.func4, Tryd.ntmps4
    go_wp2_with fail
    refine (alive02_c w HT.out).mono ?_
    rintro e w1 ⟨rfl, hB1⟩
    have HB1 := Lib.hid hB1
    clear hB1
    go_wp2
    go_ret
    exact ⟨rfl, HB1.out⟩
  have hb1 : decide ((60 : Int) < (xs.length : Int)) = false := by simp; omega
  replace hbig := Lib.hid hbig
  go_enter Tryd.func4, Tryd.ntmps4
  go_wp2_with fail
  refine (alive02_c w HT.out).mono ?_
  rintro e w1 ⟨rfl, hB1⟩
  go_wp2_with fail
  refine (new_s w1 a).mono ?_
  rintro e w2 ⟨p, g, rfl, S, lp, lg, B⟩
  have S0 := St2.new HT.out hB1 S lp lg B
  obtain ⟨C, hC⟩ : ∃ C, C = capB a := ⟨_, rfl⟩
  have hC4 : Hid (C ≤ 4096) := Lib.hid (by rw [hC]; unfold capB; omega)
  have hx0 : List.replicate (capB a) false = ofS C (orI [] []) := by
    rw [hC, ofS_false]; exact ofS_ext fun i _ => by simp [orI, memI]
  rw [hx0] at S0
  have hM := Below.alloc (Below.refl w2.heap.size w2) (Nat.le_refl _) (.map #[] 0)
  have S1 := Lib.hid (S0.below hM)
  have M1 := Lib.hid (IsC.made (K := kI) w2)
  have hd := Lib.hid (show p < w2.heap.size ∧ g < w2.heap.size ∧ w.heap.size ≤ w2.heap.size from ⟨S0.s.lt.1, S0.s.lt.2.1, S0.b.size⟩)
  have hmm := @run_makeMap Tryd.prog
  clear hB1 S lp lg B hx0 hC hM S0
  go_wp2_with fail
  clear hmm
  generalize w2.alloc (.map #[] 0) = W at *
  generalize w2.heap.size = m at *
  go_loopw [23] (fun ii wr => ∃ (i : Nat) (D : List Int) (n : Nat) (f : Int → Int), ii = .int .i64 i ∧ Hid (St2 w wr p g (ofS C (orI [] D))) ∧ Hid (Fresh C [] D) ∧ Hid ((ofS C (orI [] D)).count true = D.length) ∧ Hid (IsC kI wr m n f D) ∧ Hid (oneOf D f) ∧ Hid (n ≤ i) ∧ Hid (D.length ≤ i) ∧ Hid (i ≤ xs.length)) (fun ii _ => xs.length - (intOf ii).toNat)
  case atStart => exact ⟨0, [], 0, _, rfl, S1, Lib.hid (Fresh.nil _ _), Lib.hid (by rw [show ofS C (orI [] []) = List.replicate C false by rw [ofS_false]; exact ofS_ext fun i _ => by simp [orI, memI]]; rw [List.count_replicate]; rfl), M1, Lib.hid oneOf.start, Lib.hid (Nat.le_refl _), Lib.hid (Nat.le_refl _), Lib.hid (Nat.zero_le _)⟩
  case round =>
    clear S1 M1
    obtain ⟨i, D, n, f, rfl, S, hF, hcn, M, h1, hn, hD, hi⟩ := hrel
    by_cases hlt : i < xs.length
    · have hi41 : i < 61 := by have := hbig.out; omega
      obtain ⟨b, off, rfl, hbl, hc⟩ := row_at1 HR.out hlt
      have hz0 := (S.out.b.cell (p := ⟨b, off + i, none⟩) hbl).trans (hc i hlt)
      have hwz := Lib.hid (HG.out xs[i] (List.getElem_mem hlt))
      generalize xs[i] = z at *
      clear hc hbl
      go_wp2_with fail
      refine (put_s S.out.s _).mono ?_
      rintro e w5 ⟨rfl, Q, Fr⟩
      have hdd := hd.out
      have M3 := Lib.hid (M.out.block (Fr.block m M.out.lt (fun hh => hh.elim (fun e => by omega) (fun e => by omega))))
      have S3 := Lib.hid (S.out.put Q Fr)
      cases hp : putB (ofS C (orI [] D)) z with
      | false =>
        rw [put_no hp] at S3
        clear hp Q Fr hdd M S
        go_wp2
        go_roundw
        case rel => exact ⟨i + 1, D, n, f, by go_num, S3, hF, hcn, M3, h1, Lib.hid (by have := hn.out; omega), Lib.hid (by have := hD.out; omega), Lib.hid (by omega)⟩
        case measure => simp [intOf]; omega
      | true =>
        obtain ⟨hF2, hX⟩ := fresh_yes hF.out hp
        have hcn2 := Lib.hid (show (ofS C (orI [] (D ++ [z]))).count true = (D ++ [z]).length by rw [← hX, count_putB hp, hcn.out]; simp)
        have hzD : z ∉ D := by
          have := List.nodup_append.1 hF2.1
          exact fun hz => this.2.2 z hz z (by simp) rfl
        rw [hX] at S3
        have hf1 : Hid (f z = 0) := Lib.hid (by rw [h1.out z, if_neg hzD])
        have hfw : Hid (wrap64 (f z + 1) = f z + 1) := Lib.hid (by rw [hf1.out]; unfold wrap64; omega)
        have h12 := Lib.hid (h1.out.step hzD)
        have hks : Hid (addK D z = D ++ [z]) := Lib.hid (by unfold addK; rw [if_neg hzD])
        replace hF2 := Lib.hid hF2
        have hy1 : Hid ((Lit.int .i64 (f z + 1)).wf = true) := Lib.hid (by rw [hf1.out]; decide)
        clear hp Q Fr hdd M S hX hzD
        go_wp2_with (first | (at_lookup; refine look_c (K := kI) (k := z) rfl rfl Tryd.underlying40 rfl M3.out rfl (keyI hwz.out) ?_) | (at_mapUpdate; refine upd_c (K := kI) (k := z) (y := f z + 1) rfl rfl Tryd.underlying40 rfl M3.out (by have := hn.out; omega) rfl (keyI hwz.out) (by first | rfl | exact congrArg (Value.int .i64) hfw.out) hy1.out ?_))
        intro w6 M4 G
        rw [hks.out] at M4
        have hFB := FrB.grown G
        have hdd := hd.out
        have S4 := Lib.hid (S3.out.frb hFB (fun hh => by injection hh with hh; omega) (fun hh => by injection hh with hh; omega) (fun k hk hh => by injection hh with hh; omega))
        replace M4 := Lib.hid M4
        clear G hFB hdd S3 M3
        go_wp2
        go_roundw
        case rel => exact ⟨i + 1, _, n + 1, _, by go_num, S4, hF2, hcn2, M4, h12, Lib.hid (by have := hn.out; omega), Lib.hid (by have := hD.out; simp; omega), Lib.hid (by omega)⟩
        case measure => simp [intOf]; omega
    · have hD60 := Lib.hid (show D.length ≤ 60 by have := hD.out; have := hi.out; have := hbig.out; omega)
      have hXl : Hid ((ofS C (orI [] D)).length = C) := Lib.hid (ofS_len _ _)
      have hmem : Hid (∀ j, j < C → (hj : j < (ofS C (orI [] D)).length) → (ofS C (orI [] D))[j] = true → (j : Int) ∈ D) := Lib.hid (fun j hj hj2 h => mem_of_at hj h)
      have hwfD : Hid (∀ x ∈ D, (Lit.int .i64 x).wf = true) := Lib.hid (fun x hx => by
        have := hF.out.2 x hx; have := hC4.out
        simp [Lit.wf, IntKind.min, IntKind.max, IntKind.bits, IntKind.signed]; omega)
      generalize ofS C (orI [] D) = X at *
      go_wp2_with fail
      clear hlt hi hD hn hF
      refine (next_s S.out.s S.out.tab 0).mono ?_
      rintro e w5 ⟨rfl, m1, rfl⟩
      have S1 := Lib.hid (S.out.drewN m1)
      have M2 := Lib.hid (M.out.drewN m1)
      clear S M
      generalize wr.drewN m1 = w5 at *
      go_wp2_with fail
      go_loopw [9, 10, 11, 12] (fun nv lv kv okv wr2 => ∃ c : Nat, nv = .int .i64 (cntT X c) ∧ lv = .int .i64 ((c : Int) - 1) ∧ kv = .int .i64 (nextV X true c) ∧ okv = .bool (nextO X true c) ∧ Hid (St2 w wr2 p g X) ∧ Hid (IsC kI wr2 m n f D) ∧ Hid (c ≤ C)) (fun _ lv _ _ _ => C - (intOf lv + 1).toNat)
      case atStart => exact ⟨0, by rw [cntT_zero]; rfl, rfl, rfl, rfl, S1, M2, Lib.hid (Nat.zero_le _)⟩
      case round =>
        clear S1 M2
        obtain ⟨c, rfl, rfl, rfl, rfl, S, M, hcC⟩ := hrel
        cases hnx : nextB X true c with
        | some j =>
          obtain ⟨hj, hcj, hjx, _⟩ := nextB_of hnx
          have hjC : j < C := by rw [← hXl.out]; exact hj
          have hjD := hmem.out j hjC hj hjx
          have hj4 : j < 4096 := by have := hC4.out; omega
          have hq0 := lookc_run (K := kI) (t := 40) M.out Tryd.underlying40 (keyI (hwfD.out _ hjD))
          rw [h1.out, if_pos hjD] at hq0
          have hle := cntT_le X c
          have hcc := hcn.out
          have hDD := hD60.out
          have e1 : nextO X true (c : Int) = true := (nextO_some (k := (c : Int)) (by simpa using hnx)).1
          have e2 : nextV X true (c : Int) = j := (nextO_some (k := (c : Int)) (by simpa using hnx)).2
          have hnext := Lib.hid (cntT_next hnx)
          have d1 : decide ((j : Int) ≤ (c : Int) - 1) = false := by simp; omega
          have d2 : decide ((60 : Int) < (cntT X c : Int)) = false := by simp; omega
          have hqb := Lib.hid (show cntT X c ≤ 60 by omega)
          obtain ⟨q, hq⟩ : ∃ q, q = cntT X c := ⟨_, rfl⟩
          rw [← hq] at d2 hnext hqb ⊢
          rw [e1, e2]
          have ew1 : wrap64 ((q : Int) + 1) = (q : Int) + 1 := by have := hqb.out; unfold wrap64; omega
          have ew2 : wrap64 ((j : Int) + 1) = (j : Int) + 1 := by unfold wrap64; omega
          replace hcj := Lib.hid hcj
          clear hle hcc hDD e1 e2 hjx hnx hq hjD hj
          go_wp2_with fail
          refine (next_s S.out.s S.out.tab _).mono ?_
          rintro e w6 ⟨rfl, m2, rfl⟩
          have S2 := Lib.hid (S.out.drewN m2)
          have M3 := Lib.hid (M.out.drewN m2)
          clear S M hq0
          generalize wr.drewN m2 = w6 at *
          go_wp2
          go_roundw
          case rel => exact ⟨j + 1, by rw [hnext.out]; rfl, by congr 1; omega, rfl, rfl, S2, M3, Lib.hid (by omega)⟩
          case measure => have := hcj.out; simp [intOf]; omega
        | none =>
          have e1 : nextO X true (c : Int) = false := (nextO_none (k := (c : Int)) (by simpa using hnx)).1
          have ec : cntT X c = D.length := by rw [cntT_end hnx, hcn.out]
          have q1 := lenc_run (K := kI) (t := 40) M.out Tryd.underlying40 3
          rw [e1, ec]
          generalize nextV X true (c : Int) = kv at *
          clear e1 ec hnx
          go_wp2_with fail
          refine (count_s S.out.s).mono ?_
          rintro e w6 ⟨rfl, rfl⟩
          rw [hcn.out]
          go_wp2
          go_ret
          exact ⟨by simp, S.out.b⟩
end Go.Proofs.YtkogkimncoaboaaDoor
