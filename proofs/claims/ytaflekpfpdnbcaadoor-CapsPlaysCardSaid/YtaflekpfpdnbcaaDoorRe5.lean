/- CapsRetires. -/
import Derived.Test.YtaflekpfpdnbcaaDoorLv
import Derived.Test.YtaflekpfpdnbcaaDoorBi5
namespace Go.Proofs.YtaflekpfpdnbcaaDoor
open Go.RowKit
set_option linter.unusedVariables false
set_option linter.unusedSimpArgs false
set_option linter.unusedSectionVars false
set_option maxRecDepth 100000

theorem packV_nat {i g r : Nat} (hi : i < 65536) (hg : g < 1099511627776) (hr : r < 256) : packV i g r = ((g * 16777216 + i * 256 + r : Nat) : Int) := by
  unfold packV
  have h1 : IntKind.u64.wrap (IntKind.u64.wrap (g : Int) * 16777216) = (g : Int) * 16777216 := by
    rw [IntKind.wrap_u64, IntKind.wrap_u64]; omega
  rw [h1, pack_bits i g (r : Int) hi hg]
  congr 2; omega
/-- The handles that are out. -/
def livesP (P : List Pc) : List Int := ((List.range P.length).filter (fun i => (P.getD i Pc.new).is)).map (fun i => (bitsP i (P.getD i Pc.new) : Int))
theorem hsV_live {P : List Pc} {most : Nat} (hp : ∀ x ∈ P, x.Ok most) (hm : most ≤ 16777215) (hl : P.length ≤ 65536) : hsV (entA Rw.zero (vsP P) (xP most P)) = livesP P := by
  unfold hsV livesP entA entF
  rw [List.filter_map, List.map_map, List.filter_filter, Nat.sub_zero, ← List.range_eq_range', List.length_map]
  have hx : ∀ i, i < P.length → (P.getD i Pc.new) = P[i]! ∧ (P.getD i Pc.new).Ok most ∧ (vsP P).getD i Rw.zero = (P.getD i Pc.new).row ∧ (xP most P).getD i false = (P.getD i Pc.new).full most := by
    intro i hi
    refine ⟨by simp [hi], ?_, ?_, ?_⟩
    · have : P.getD i Pc.new = P[i] := by simp [hi]
      rw [this]; exact hp _ (List.getElem_mem hi)
    · simp [hi]
    · simp [hi]
  have hf : (List.range P.length).filter (fun a => ((fun x : Nat × Rw => decide (0 < x.2.gen)) ∘ fun j => (j, (vsP P).getD j Rw.zero)) a && (xP most P).getD a false) = (List.range P.length).filter (fun i => (P.getD i Pc.new).is) := by
    apply List.filter_congr
    intro i hi
    obtain ⟨-, ok, h1, h2⟩ := hx i (List.mem_range.1 hi)
    show (decide (0 < ((vsP P).getD i Rw.zero).gen) && (xP most P).getD i false) = _
    simp only [h1, h2]
    clear h1 h2 hx
    generalize P.getD i Pc.new = x at *
    unfold Pc.row Pc.full
    cases hs : x.is with
    | true =>
      have h0 : (0 : Int) < (x.gen : Int) := by have := (ok.is hs).1; omega
      simp; omega
    | false => simp [Rw.zero]
  rw [hf]
  apply List.map_congr_left
  intro i hi
  obtain ⟨hi1, hi2⟩ := List.mem_filter.1 hi
  have hil := List.mem_range.1 hi1
  obtain ⟨-, ok, h1, h2⟩ := hx i hil
  simp only [Function.comp]
  rw [h1]
  unfold Pc.row
  rw [if_pos hi2]
  exact packV_nat (by omega) (by have := ok.gen; omega) (ok.is hi2).2
theorem livesP_none {P : List Pc} (h : P.countP Pc.is = 0) : livesP P = [] := by
  unfold livesP
  rw [List.countP_eq_zero] at h
  rw [List.map_eq_nil_iff, List.filter_eq_nil_iff]
  intro i hi
  have hil := List.mem_range.1 hi
  have : P.getD i Pc.new = P[i] := by simp [hil]
  rw [this]
  exact h _ (List.getElem_mem hil)

/-- Places behind n handles, each revoked at once. -/
def rp (room G n : Nat) : List Pc := (List.range room).map (fun i => ⟨min G (n - i * G), false, 0, 0, 0⟩)
theorem rp_len (room G n : Nat) : (rp room G n).length = room := by simp [rp]
theorem rp_at {room G n i : Nat} (h : i < (rp room G n).length) : (rp room G n)[i] = ⟨min G (n - i * G), false, 0, 0, 0⟩ := by simp [rp]
theorem rp_zero (room G : Nat) : rp room G 0 = List.replicate room Pc.new := by
  apply List.ext_getElem
  · simp [rp]
  · intro i h1 h2
    rw [rp_at, List.getElem_replicate]
    simp [Pc.new]
theorem rp_next {room G n : Nat} (hG : 1 ≤ G) (hn : n < room * G) : nextB (xP G (rp room G n)) false 0 = some (n / G) ∧ n / G < room ∧ n / G * G ≤ n ∧ n < (n / G + 1) * G := by
  have h1 : n / G < room := (Nat.div_lt_iff_lt_mul (by omega)).2 hn
  have h2 := Nat.div_mul_le_self n G
  have h3 : n < (n / G + 1) * G := by
    have h4 := Nat.div_add_mod n G
    have h5 := Nat.mod_lt n (show 0 < G by omega)
    rw [Nat.add_mul, Nat.one_mul, Nat.mul_comm]; omega
  refine ⟨?_, h1, h2, h3⟩
  have hl : (xP G (rp room G n)).length = room := by rw [List.length_map, rp_len]
  refine nextB_some (by rw [hl]; exact h1) (Nat.zero_le _) ?_ (fun q hq _ hlt => ?_)
  · rw [List.getElem_map, rp_at]
    unfold Pc.full
    rw [Nat.add_mul, Nat.one_mul] at h3
    simp; omega
  · rw [List.getElem_map, rp_at]
    unfold Pc.full
    have h4 : (q + 1) * G ≤ n / G * G := Nat.mul_le_mul_right _ (by omega)
    rw [Nat.add_mul, Nat.one_mul] at h4
    simp; omega
theorem rp_step {room G n j : Nat} (h1 : j < room) (h2 : j * G ≤ n) (h3 : n < (j + 1) * G) : (rp room G n).set j ⟨n - j * G + 1, false, 0, 0, 0⟩ = rp room G (n + 1) := by
  rw [Nat.add_mul, Nat.one_mul] at h3
  apply List.ext_getElem
  · simp [rp]
  · intro i hi1 hi2
    rw [List.getElem_set, rp_at hi2]
    split
    · rename_i e
      subst e
      congr 1; omega
    · rename_i e
      rw [rp_at (by rw [List.length_set] at hi1; exact hi1)]
      congr 1
      rcases Nat.lt_or_gt_of_ne e with h | h
      · have h4 : (j + 1) * G ≤ i * G := Nat.mul_le_mul_right _ (by omega)
        rw [Nat.add_mul, Nat.one_mul] at h4
        omega
      · have h4 : (i + 1) * G ≤ j * G := Nat.mul_le_mul_right _ (by omega)
        rw [Nat.add_mul, Nat.one_mul] at h4
        omega
theorem rp_is (room G n : Nat) : (rp room G n).countP Pc.is = 0 := by
  rw [List.countP_eq_zero]
  intro x hx
  unfold rp at hx
  obtain ⟨i, -, rfl⟩ := List.mem_map.1 hx
  simp
theorem rp_end {room G : Nat} (hG : 1 ≤ G) : nextB (xP G (rp room G (room * G))) false 0 = none ∧ (rp room G (room * G)).countP (Pc.dead G) = room := by
  have key : ∀ i, i < room → G ≤ room * G - i * G := fun i hi => by
    have h4 : (i + 1) * G ≤ room * G := Nat.mul_le_mul_right _ (by omega)
    rw [Nat.add_mul, Nat.one_mul] at h4
    omega
  constructor
  · refine nextB_none (fun q hq _ => ?_)
    rw [List.length_map, rp_len] at hq
    rw [List.getElem_map, rp_at]
    unfold Pc.full
    have := key q hq
    simp; omega
  · have : (rp room G (room * G)).countP (Pc.dead G) = (rp room G (room * G)).length := by
      rw [List.countP_eq_length]
      intro x hx
      unfold rp at hx
      obtain ⟨i, hi, rfl⟩ := List.mem_map.1 hx
      have := key i (List.mem_range.1 hi)
      unfold Pc.dead
      simp; omega
    rw [this, rp_len]

set_option maxHeartbeats 8000000 in
theorem retires5_walk (a0 a1 : Int) (w : World) (hT : Tab w) :
    Calls Tryd.prog 6 #[.int .i64 a0, .int .i64 a1] w fun e w' => e = .returned (.bool true) ∧ Below w.heap.size w w' := by
  obtain ⟨Rm, e0, hR⟩ := mask_nat 4 15 (by decide) (by decide) a0
  obtain ⟨K, e1, hK⟩ := mask_nat 3 7 (by decide) (by decide) a1
  replace hR : Rm < 16 := hR
  replace hK : K < 8 := hK
  obtain ⟨G, hG⟩ : ∃ G, G = 1 + K := ⟨_, rfl⟩
  have hG1 : 1 ≤ G ∧ G ≤ 8 := by omega
  have eG : (1 : Int) + (K : Int) = (G : Int) := by omega
  obtain ⟨M, hM⟩ : ∃ M, M = Rm * G := ⟨_, rfl⟩
  have hM2 : M ≤ 15 * 8 := by rw [hM]; exact Nat.mul_le_mul (by omega) hG1.2
  have eM : (Rm : Int) * (G : Int) = (M : Int) := by rw [hM, Int.natCast_mul]
  have al := Lib.hid (alive05_c w hT)
  have HT := Lib.hid hT
  replace hG := Lib.hid hG; replace hM := Lib.hid hM
  clear hT
  go_enter Tryd.func6, Tryd.ntmps6
  go_wp2_with fail
  refine al.out.mono ?_
  rintro e w1 ⟨rfl, F⟩
  have tb := table_c (HT.out.below F) (Rm : Int) (G : Int)
  rw [show capR (Rm : Int) = Rm by unfold capR; omega, show mostP (G : Int) = G by unfold mostP; omega, ← rp_zero Rm G] at tb
  replace tb := Lib.hid tb
  replace F := Lib.hid F
  go_wp2_with fail
  refine tb.out.mono ?_
  rintro e w2 ⟨T, rfl, H⟩
  replace H := Lib.hid H
  clear tb
  go_wp2_with fail
  go_loopw [24] (fun ii wr => ∃ (n : Nat), ii = .int .i64 n ∧ Hid (n ≤ M) ∧ Hid (TabW w1 wr T (rp Rm G n) G)) (fun ii _ => M - (intOf ii).toNat)
  case atStart => exact ⟨0, rfl, Lib.hid (by omega), H⟩
  case round =>
    clear H
    obtain ⟨n, rfl, hn, H⟩ := hrel
    by_cases hlt : n < M
    · have hlH := Lib.hid hlt
      have hn120 : n < 121 := by omega
      obtain ⟨x1, x2, x3, x4⟩ := rp_next (room := Rm) hG1.1 (show n < Rm * G by rw [← hM.out]; exact hlt)
      obtain ⟨j, hj⟩ : ∃ j, j = n / G := ⟨_, rfl⟩
      rw [← hj] at x1 x2 x3 x4
      have x5 : n - j * G + 1 ≤ 8 ∧ n - j * G < G := by
        have := x4
        rw [Nat.add_mul, Nat.one_mul] at this
        omega
      have hat : (rp Rm G n)[j]'(by rw [rp_len]; exact x2) = ⟨n - j * G, false, 0, 0, 0⟩ := by
        rw [rp_at]; congr 1; omega
      obtain ⟨g1, hg1⟩ : ∃ g, g = n - j * G + 1 := ⟨_, rfl⟩
      have hgd : (rp Rm G n).getD j Pc.new = ⟨n - j * G, false, 0, 0, 0⟩ := by
        rw [← hat]; simp [rp_len, x2]
      obtain ⟨P1, hP1⟩ : ∃ P, P = (rp Rm G n).set j ⟨g1, true, 1, n, 0⟩ := ⟨_, rfl⟩
      obtain ⟨h, hh⟩ : ∃ h : Nat, h = g1 * 16777216 + j * 256 := ⟨_, rfl⟩
      have hgb : g1 ≤ 8 := by omega
      have hjb : j < 16 := by omega
      have m1 := H.out.mint 1 n 0
      rw [x1] at m1
      replace m1 : Calls Tryd.prog 11 #[.pointer (some ⟨T.t, 0, none⟩), .agg #[.int .i64 1, .int .i64 n, .int .i64 0]] wr fun e w' => e = .returned (.tuple #[.int .u64 (h : Nat), .int .i64 0]) ∧ TabW w1 w' T P1 G ∧ FrC T.F wr w' := by
        refine m1.mono (fun e w' k => ⟨?_, ?_, k.2.2⟩)
        · rw [k.1]
          show Ending.returned (.tuple #[.int .u64 (((((rp Rm G n).getD j Pc.new).gen + 1) * 16777216 + j * 256 + ((0 : Int) % 256).toNat : Nat) : Int), .int .i64 0]) = _
          rw [hgd, show ((0 : Int) % 256).toNat = 0 from rfl, Nat.add_zero, hh, hg1]
        · have := k.2.1
          unfold mintP at this
          simp only [] at this
          rw [hgd] at this
          rw [hP1, hg1]
          exact this
      have hl1 : P1.length = Rm := by rw [hP1, List.length_set, rp_len]
      have hat1 : P1[j]'(by rw [hl1]; exact x2) = ⟨g1, true, 1, n, 0⟩ := by simp [hP1]
      have fd : findP P1 h = some j := by
        have q1 : h / 256 % 65536 = j := by omega
        have q2 : h / 16777216 = g1 := by omega
        have q3 : h % 256 = 0 := by omega
        unfold findP
        rw [dif_pos (by rw [q1, hl1]; exact x2), if_pos]
        · rw [q1]
        · simp only [q1, q2, q3, hat1]
          exact ⟨trivial, trivial, trivial⟩
      have rv : revP P1 (some j) = rp Rm G (n + 1) := by
        unfold revP
        simp only []
        rw [show P1.getD j Pc.new = P1[j]'(by rw [hl1]; exact x2) by simp [hl1, x2], hat1, hP1, List.set_set, ← rp_step x2 x3 x4, hg1]
        rfl
      have ct1 : P1.countP Pc.is = 1 := by
        have := countP_set Pc.is (rp Rm G n) j (by rw [rp_len]; exact x2) ⟨g1, true, 1, n, 0⟩
        rw [hat, rp_is, ← hP1] at this
        simpa using this
      have hh64 : h < 18446744073709551616 := by omega
      replace m1 := Lib.hid m1; replace fd := Lib.hid fd; replace rv := Lib.hid rv; replace ct1 := Lib.hid ct1; replace hh64 := Lib.hid hh64
      clear x1 x2 x3 x4 x5 hat hgd hP1 hh hl1 hat1 hj hg1 hgb hjb H
      go_wp2_with fail
      refine m1.out.mono ?_
      rintro e w3 ⟨rfl, H, -⟩
      have c1 := H.count
      rw [ct1.out] at c1
      replace c1 := Lib.hid c1
      clear m1 H
      go_wp2_with fail
      refine c1.out.mono ?_
      rintro e w4 ⟨rfl, H, -⟩
      have r1 := H.revoke hh64.out
      rw [fd.out, rv.out] at r1
      replace r1 : Hid (Calls Tryd.prog 12 #[.pointer (some ⟨T.t, 0, none⟩), .int .u64 (h : Nat)] w4 fun e w' => e = .returned (.int .i64 0) ∧ TabW w1 w' T (rp Rm G (n + 1)) G ∧ FrC T.F w4 w') := Lib.hid r1
      clear c1 H
      go_wp2_with fail
      refine r1.out.mono ?_
      rintro e w5 ⟨rfl, H, -⟩
      have c2 := H.count
      rw [rp_is] at c2
      replace c2 := Lib.hid c2
      clear r1 H
      go_wp2_with fail
      refine c2.out.mono ?_
      rintro e w6 ⟨rfl, H, -⟩
      replace H := Lib.hid H
      clear c2
      go_wp2
      go_roundw
      case rel => exact ⟨n + 1, by go_num, hlH, H⟩
      case measure => have := hlH.out; simp [intOf]; omega
    · obtain rfl : M = n := by have := hn.out; omega
      have hE := rp_end (room := Rm) hG1.1
      rw [← hM.out] at hE
      have m1 := H.out.mint 0 0 0
      rw [hE.1] at m1
      replace m1 : Hid (Calls Tryd.prog 11 #[.pointer (some ⟨T.t, 0, none⟩), .agg #[.int .i64 0, .int .i64 0, .int .i64 0]] wr fun e w' => e = .returned (.tuple #[.int .u64 0, .int .i64 4]) ∧ TabW w1 w' T (rp Rm G M) G ∧ FrC T.F wr w') := Lib.hid m1
      replace hE := Lib.hid hE
      clear hlt hn H
      go_wp2_with fail
      refine m1.out.mono ?_
      rintro e w3 ⟨rfl, H, -⟩
      have d1 := H.dead
      rw [hE.out.2] at d1
      replace d1 := Lib.hid d1
      clear m1 H
      go_wp2_with fail
      refine d1.out.mono ?_
      rintro e w4 ⟨rfl, H, -⟩
      have lv := live_c H.S H.tab
      rw [hsV_live H.S.pc H.S.most.2 (by rw [rp_len]; omega), livesP_none (rp_is _ _ _)] at lv
      replace lv := Lib.hid lv
      replace H := Lib.hid H
      clear d1
      go_wp2_with fail
      refine lv.out.mono ?_
      rintro e w5 ⟨v, rfl, O, F5⟩
      obtain ⟨A5, k5, rfl, -⟩ := O.slice
      have B := Lib.hid (F.out.trans ((H.out.below F5).B.mono F.out.size))
      clear O
      go_wp2
      go_ret
      exact ⟨rfl, B.out⟩
end Go.Proofs.YtaflekpfpdnbcaaDoor
