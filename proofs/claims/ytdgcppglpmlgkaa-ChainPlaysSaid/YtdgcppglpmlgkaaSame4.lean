/- The document's lists: the contracts in one; New; the law's same. -/
import Derived.Test.YtdgcppglpmlgkaaRef04b
import Derived.Test.YtdgcppglpmlgkaaMake
namespace Go.Proofs.Ytdgcppglpmlgkaa
open Go.RowKit
set_option linter.unusedVariables false
set_option linter.unusedSimpArgs false

/-- What lists have that are lists. -/
structure RowsOK (n m : Nat) (R : Nat → List Nat) : Prop where
  hn : n ≤ 8192
  hm : m ≤ 8192
  len : ∀ i, (R i).length ≤ 8192
  uniq : ∀ i j x, x ∈ R i → x ∈ R j → i = j
  nodup : ∀ i, (R i).Nodup
  off : ∀ i, m ≤ i → R i = []
theorem ChI.ok {w : World} {p L M n m : Nat} {R : Nat → List Nat} (h : ChI w p L M n m R) : RowsOK n m R := by
  have hlen := fun i : Nat => h.rowLen (i : Int)
  obtain ⟨s, h1, rfl, rfl, h2⟩ := h
  have nd : ∀ i, (R i).Nodup := fun i => by
    by_cases hi : i < s.m
    · exact h2.nodup i hi
    · rw [h2.none i (by omega)]; exact List.nodup_nil
  refine ⟨h1.bn, h1.bm, fun i => ?_, fun i j x hx hy => ?_, nd, h2.none⟩
  · have := hlen i
    unfold rowI at this
    rw [if_pos (Int.natCast_nonneg i), Int.toNat_natCast] at this
    exact this
  · have hi : i < s.m := by
      apply Classical.byContradiction
      intro hc
      rw [h2.none i (by omega)] at hx; cases hx
    have hj : j < s.m := by
      apply Classical.byContradiction
      intro hc
      rw [h2.none j (by omega)] at hy; cases hy
    have a1 := (h2.mem i hi x hx).2
    have a2 := (h2.mem j hj x hy).2
    omega

theorem same_c2 {w : World} {A B : Option Addr} {ca cb na nb : Nat} {xs ys : List Int} (hx : RowAt intCells 1 w A xs) (hy : RowAt intCells 1 w B ys) (ha : na = xs.length) (hb : nb = ys.length) (hm : na ≤ 1000000) (hm2 : nb ≤ 1000000) :
    Calls Try.prog 42 #[.slice A na ca, .slice B nb cb] w fun e w' => e = .returned (.bool (decide (xs = ys))) ∧ Below w.heap.size w w' := by
  subst ha; subst hb
  exact same_c hx hy (by omega) (by omega)

theorem push4_c {av : Nat → Prop} {w : World} {A : Option Addr} {R : Nat → List Nat} {n m c : Nat} (hr : RowsAt av w A (rowsOf m R)) (hlo : ∀ b, w.heap.size ≤ b → ¬ av b) (ok : RowsOK n m R) (j k : Int) :
    Calls Try.prog 36 #[LV n A m c, .int .i64 j, .int .i64 k] w fun e w' => ∃ A' c', e = .returned (.tuple #[LV n A' m c', .bool (canPush n m R j k)]) ∧ RowsAt av w' A' (rowsOf m (pushR n m R j k)) ∧ Below w.heap.size w w' := by
  have fin : canPush n m R j k = false → ∀ (e : Ending) (w' : World), (e = .returned (.tuple #[LV n A m c, .bool false]) ∧ Below w.heap.size w w') → ∃ A' c', e = .returned (.tuple #[LV n A' m c', .bool (canPush n m R j k)]) ∧ RowsAt av w' A' (rowsOf m (pushR n m R j k)) ∧ Below w.heap.size w w' := by
    rintro hc e w' ⟨rfl, hb⟩
    have hp : pushR n m R j k = R := by unfold pushR; rw [if_neg (by simp [hc])]
    rw [hp, hc]
    exact ⟨A, c, rfl, hr.below hb, hb⟩
  by_cases h0 : j < 0
  · exact (push4_no0 hr hlo ok.hm ok.hn ok.len ok.uniq j k h0).mono (fin (by unfold canPush; simp; omega))
  by_cases h1 : (m : Int) ≤ j
  · exact (push4_no1 hr hlo ok.hm ok.hn ok.len ok.uniq j k (by omega) h1).mono (fin (by unfold canPush; simp; omega))
  by_cases h2 : k < 0
  · exact (push4_no2 hr hlo ok.hm ok.hn ok.len ok.uniq j k (by omega) (by omega) h2).mono (fin (by unfold canPush; simp; omega))
  by_cases h3 : (n : Int) ≤ k
  · exact (push4_no3 hr hlo ok.hm ok.hn ok.len ok.uniq j k (by omega) (by omega) (by omega) h3).mono (fin (by unfold canPush; simp; omega))
  by_cases h4 : onB m R k = true
  · refine (push4_no4 hr hlo ok.hm ok.hn ok.len ok.uniq j k (by omega) (by omega) (by omega) (by omega) h4).mono (fin ?_)
    unfold onB at h4
    simp only [Bool.and_eq_true] at h4
    unfold canPush
    simp [h4.2]
  · simp only [Bool.not_eq_true] at h4
    obtain ⟨jn, rfl⟩ := Int.eq_ofNat_of_zero_le (show 0 ≤ j by omega)
    obtain ⟨kn, rfl⟩ := Int.eq_ofNat_of_zero_le (show 0 ≤ k by omega)
    have hc : canPush n m R jn kn = true := by
      unfold onB at h4
      unfold canPush
      simp at h4 ⊢
      exact ⟨⟨by omega, by omega⟩, h4⟩
    refine (push4_yes hr hlo ok.hm ok.hn ok.len ok.uniq jn kn (by omega) (by omega) h4).mono ?_
    rintro e w' ⟨A', c', rfl, g1, g2⟩
    have hp : pushR n m R jn kn = updR R jn (R jn ++ [kn]) := by unfold pushR; rw [if_pos hc, Int.toNat_natCast, Int.toNat_natCast]
    rw [hp, hc]
    exact ⟨A', c', rfl, g1, g2⟩

theorem pull4_c {av : Nat → Prop} {w : World} {A : Option Addr} {R : Nat → List Nat} {n m c : Nat} (hr : RowsAt av w A (rowsOf m R)) (hlo : ∀ b, w.heap.size ≤ b → ¬ av b) (ok : RowsOK n m R) (k : Int) :
    Calls Try.prog 38 #[LV n A m c, .int .i64 k] w fun e w' => ∃ A' c', e = .returned (.tuple #[LV n A' m c', .bool (onB m R k)]) ∧ RowsAt av w' A' (rowsOf m (pullR m R k)) ∧ Below w.heap.size w w' := by
  cases h4 : onB m R k with
  | false =>
    refine (pull4_no hr hlo ok.hm ok.hn ok.len ok.uniq k h4).mono ?_
    rintro e w' ⟨rfl, hb⟩
    have hp : pullR m R k = R := by unfold pullR; rw [if_neg (by simp [h4])]
    rw [hp]
    exact ⟨A, c, rfl, hr.below hb, hb⟩
  | true =>
    have h0 : 0 ≤ k := by
      unfold onB at h4
      simp at h4
      exact h4.1
    obtain ⟨kn, rfl⟩ := Int.eq_ofNat_of_zero_le h0
    exact (pull4_yes hr hlo ok.hm ok.hn ok.len ok.uniq kn ok.nodup h4)

set_option maxRecDepth 100000 in
set_option maxHeartbeats 2000000 in
theorem new4_c (w : World) (a b : Int) (n m : Nat) (hn : capI a = n) (hm : capI b = m) :
    Calls Try.prog 33 #[.int .i64 a, .int .i64 b] w fun e w' => ∃ A c, e = .returned (LV n A m c) ∧ RowsAt (fun b => b < w.heap.size) w' A (rowsOf m c0) ∧ Below w.heap.size w w' := by
  have m1 : m ≤ 4096 := by unfold capI at hm; omega
  obtain ⟨Z, s1, z1, k1⟩ := make_eq (t := 59) Try.underlying59 infoR rfl rfl .i64 .i64 m (by omega) (by omega)
  have B0 := Below.alloc (Below.refl w.heap.size w) (Nat.le_refl _) (.cells #[.int .i64 0, .slice none 0 0] 61)
  have h2 := (Cel.new w #[.int .i64 0, .slice none 0 0] 61 0 (.int .i64 0) rfl)
  have h3 := (Cel.new w #[.int .i64 0, .slice none 0 0] 61 1 (.slice none 0 0) rfl)
  replace z1 := Lib.hid z1; replace s1 := Lib.hid s1
  go_enter Try.func33, Try.ntmps33
  go_wp2_with fail
  refine (held_c _ a).mono ?_
  rintro e w1 ⟨rfl, rfl⟩
  rw [hn]
  go_wp2_with fail
  refine (held_c _ b).mono ?_
  rintro e w1 ⟨rfl, rfl⟩
  rw [hm]
  obtain ⟨h2c, h2f⟩ := h2
  obtain ⟨h3c, h3f⟩ := h3
  clear hn hm
  replace B0 := Lib.hid B0
  go_wp2
  refine bodyPost_ret (v := LV n (some ⟨w.heap.size + 1, 0, none⟩) m m) (by simp [results, Try.results33, go_sem, *]) rfl ?_
  refine ⟨_, _, rfl, ?_, ?_⟩
  · intro i hi
    rw [rowsOf_len] at hi
    rw [rowsOf_get]
    refine ⟨w.heap.size + 1, 0, none, 0, rfl, by simp, ?_, RowAt.nil _ _, by omega, fun _ _ h => by cases h⟩
    have hz := z1.out i 0 hi (by omega)
    rw [Nat.mul_one, Nat.add_zero] at hz
    rw [Nat.zero_add]
    have key := (Cel.new (w.alloc (.cells #[.int .i64 n, .slice (some ⟨w.heap.size + 1, 0, none⟩) m m] 61)) Z 40 i (.slice none 0 0) (by rw [hz]; rfl)).1
    rw [World.size_alloc] at key
    exact key
  · exact ((Below.refl w.heap.size w).alloc (Nat.le_refl _) _).alloc (by simp) _

set_option maxRecDepth 100000 in
set_option maxHeartbeats 4000000 in
theorem same4_neg {av : Nat → Prop} {w : World} {p L M n m c : Nat} {A : Option Addr} {R : Nat → List Nat} (K : ChI w p L M n m R) (HR : RowsAt av w A (rowsOf m R)) (j k : Int) (hj : j < 0) (hrow : rowI R j = ([] : List Nat)) :
    Calls Try.prog 40 #[.pointer (some ⟨p, 0, none⟩), LV n A m c, .int .i64 j, .int .i64 k] w fun e w' => e = .returned (.bool true) ∧ Below w.heap.size w w' := by
  have ok := Lib.hid K.ok
  have hm := ok.out.hm
  have hn := ok.out.hn
  have h0 : Cel ((w.alloc (.cells #[.int .i64 n, .slice A m c] 61)).alloc (.cells #[] 3)) w.heap.size 0 (.int .i64 n) := (((Cel.new w #[.int .i64 n, .slice A m c] 61 0 _ rfl).alloc (.cells #[] 3)))
  have h1 : Cel ((w.alloc (.cells #[.int .i64 n, .slice A m c] 61)).alloc (.cells #[] 3)) w.heap.size 1 (.slice A m c) := (((Cel.new w #[.int .i64 n, .slice A m c] 61 1 _ rfl).alloc (.cells #[] 3)))
  have b0 := (((Below.refl w.heap.size w).alloc (Nat.le_refl _) (.cells #[.int .i64 n, .slice A m c] 61)).alloc (by simp) (.cells #[] 3))
  replace K := K.below b0 (Nat.le_refl _)
  replace HR := HR.below b0
  have B0 := Lib.hid b0
  clear b0
  have h0c := h0.1; have h1c := h1.1
  clear h0 h1
  have hw := row_new (w.alloc (.cells #[.int .i64 n, .slice A m c] 61)) #[] 3 (natsI ([] : List Nat)) rfl
  rw [World.size_alloc] at hw
  replace hrow := Lib.hid hrow
  go_enter Try.func40, Try.ntmps40
  go_wp2_with fail
  refine (first_i K j).mono ?_
  rintro e w5 ⟨rfl, rfl⟩
  rw [hrow.out]
  simp only [hdOr]
  go_wp2_with fail
  refine (on_i K k).mono ?_
  rintro e w5 ⟨rfl, rfl⟩
  go_wp2_with fail
  refine (on4_c (n := n) HR (rowsOf_len m R).symm (by rw [rowsOf_len]; have := ok.out.hm; omega) (rows_len ok.out.len) k).mono ?_
  rintro e w6 ⟨v, rfl, hv, F6⟩
  replace hv := on4_spec hv ok.out.uniq
  have K6 := K.below F6 (Nat.le_refl _)
  have hw6 := hw.below F6
  have B6 := Lib.hid (B0.out.trans (F6.mono B0.out.size))
  have hlr : (rowI R j).length ≤ 8192 := K.rowLen j
  rw [hrow.out] at hlr
  have hle1 : (natsI ([] : List Nat)).length ≤ 1000000 := by
    have h1 : (natsI ([] : List Nat)).length = (([] : List Nat) : List Nat).length := by simp [natsI]
    omega
  have hle2 : 0 ≤ 1000000 := by
    have h1 : (([] : List Nat) : List Nat).length = 0 := by simp
    omega
  replace hle1 := Lib.hid hle1; replace hle2 := Lib.hid hle2; replace hlr := Lib.hid hlr; replace K6 := Lib.hid K6; replace hw6 := Lib.hid hw6
  clear K HR hw B0 F6 h0c h1c
  rcases hv with ⟨h1, h2, _, _⟩ | ⟨h1, h2⟩
  · have e1 : onV m R k = (onAt m R k.toNat : Int) := by unfold onV; rw [if_pos h1]
    rw [h2, h1, e1]
    generalize onAt m R k.toNat = oa at *
    clear h2 h1 e1
    have g1 : ((oa : Int) == (if 0 < (oa : Int) then (oa : Int) else 0)) = true := by rw [beq_iff_eq]; split <;> omega
    have g2 : ((oa : Int) == (if (oa : Int) < 0 then 0 else (oa : Int))) = true := by rw [beq_iff_eq]; split <;> omega
    go_wp2_with fail
    refine (len_i K6.out j).mono ?_
    rintro e w7 ⟨rfl, rfl⟩
    rw [hrow.out]
    go_wp2_with fail
    refine (all_i K6.out j).mono ?_
    rintro e w7 ⟨v7, rfl, O7, F7⟩
    rw [hrow.out] at O7
    have hw7 := hw6.out.below F7
    obtain ⟨A7, c7, rfl, r7, _, _⟩ := O7.form
    have B7 := Lib.hid (B6.out.trans (F7.mono B6.out.size))
    clear O7 F7 K6 hw6 B6
    go_wp2_with fail
    refine (same_c2 (ys := natsI ([] : List Nat)) r7 hw7 rfl (by simp [natsI]) hle1.out hle2.out).mono ?_
    rintro e w8 ⟨rfl, F8⟩
    rw [decide_eq_true (rfl : natsI ([] : List Nat) = natsI ([] : List Nat))]
    have B8 := Lib.hid (B7.out.trans (F8.mono B7.out.size))
    clear F8 B7 r7 hw7
    go_wp2
    go_ret
    exact ⟨rfl, B8.out⟩
  · have e1 : onV m R k = 0 := by unfold onV; rw [if_neg (by simp [h1])]
    rw [h2, h1, e1]
    clear h2 h1 e1
    go_wp2_with fail
    refine (len_i K6.out j).mono ?_
    rintro e w7 ⟨rfl, rfl⟩
    rw [hrow.out]
    go_wp2_with fail
    refine (all_i K6.out j).mono ?_
    rintro e w7 ⟨v7, rfl, O7, F7⟩
    rw [hrow.out] at O7
    have hw7 := hw6.out.below F7
    obtain ⟨A7, c7, rfl, r7, _, _⟩ := O7.form
    have B7 := Lib.hid (B6.out.trans (F7.mono B6.out.size))
    clear O7 F7 K6 hw6 B6
    go_wp2_with fail
    refine (same_c2 (ys := natsI ([] : List Nat)) r7 hw7 rfl (by simp [natsI]) hle1.out hle2.out).mono ?_
    rintro e w8 ⟨rfl, F8⟩
    rw [decide_eq_true (rfl : natsI ([] : List Nat) = natsI ([] : List Nat))]
    have B8 := Lib.hid (B7.out.trans (F8.mono B7.out.size))
    clear F8 B7 r7 hw7
    go_wp2
    go_ret
    exact ⟨rfl, B8.out⟩

set_option maxRecDepth 100000 in
set_option maxHeartbeats 4000000 in
theorem same4_big {av : Nat → Prop} {w : World} {p L M n m c : Nat} {A : Option Addr} {R : Nat → List Nat} (K : ChI w p L M n m R) (HR : RowsAt av w A (rowsOf m R)) (j k : Int) (hj0 : 0 ≤ j) (hj : (m : Int) ≤ j) (hrow : rowI R j = ([] : List Nat)) :
    Calls Try.prog 40 #[.pointer (some ⟨p, 0, none⟩), LV n A m c, .int .i64 j, .int .i64 k] w fun e w' => e = .returned (.bool true) ∧ Below w.heap.size w w' := by
  have ok := Lib.hid K.ok
  have hm := ok.out.hm
  have hn := ok.out.hn
  have h0 : Cel ((w.alloc (.cells #[.int .i64 n, .slice A m c] 61)).alloc (.cells #[] 3)) w.heap.size 0 (.int .i64 n) := (((Cel.new w #[.int .i64 n, .slice A m c] 61 0 _ rfl).alloc (.cells #[] 3)))
  have h1 : Cel ((w.alloc (.cells #[.int .i64 n, .slice A m c] 61)).alloc (.cells #[] 3)) w.heap.size 1 (.slice A m c) := (((Cel.new w #[.int .i64 n, .slice A m c] 61 1 _ rfl).alloc (.cells #[] 3)))
  have b0 := (((Below.refl w.heap.size w).alloc (Nat.le_refl _) (.cells #[.int .i64 n, .slice A m c] 61)).alloc (by simp) (.cells #[] 3))
  replace K := K.below b0 (Nat.le_refl _)
  replace HR := HR.below b0
  have B0 := Lib.hid b0
  clear b0
  have h0c := h0.1; have h1c := h1.1
  clear h0 h1
  have hw := row_new (w.alloc (.cells #[.int .i64 n, .slice A m c] 61)) #[] 3 (natsI ([] : List Nat)) rfl
  rw [World.size_alloc] at hw
  replace hrow := Lib.hid hrow
  go_enter Try.func40, Try.ntmps40
  go_wp2_with fail
  refine (first_i K j).mono ?_
  rintro e w5 ⟨rfl, rfl⟩
  rw [hrow.out]
  simp only [hdOr]
  go_wp2_with fail
  refine (on_i K k).mono ?_
  rintro e w5 ⟨rfl, rfl⟩
  go_wp2_with fail
  refine (on4_c (n := n) HR (rowsOf_len m R).symm (by rw [rowsOf_len]; have := ok.out.hm; omega) (rows_len ok.out.len) k).mono ?_
  rintro e w6 ⟨v, rfl, hv, F6⟩
  replace hv := on4_spec hv ok.out.uniq
  have K6 := K.below F6 (Nat.le_refl _)
  have hw6 := hw.below F6
  have B6 := Lib.hid (B0.out.trans (F6.mono B0.out.size))
  have hlr : (rowI R j).length ≤ 8192 := K.rowLen j
  rw [hrow.out] at hlr
  have hle1 : (natsI ([] : List Nat)).length ≤ 1000000 := by
    have h1 : (natsI ([] : List Nat)).length = (([] : List Nat) : List Nat).length := by simp [natsI]
    omega
  have hle2 : 0 ≤ 1000000 := by
    have h1 : (([] : List Nat) : List Nat).length = 0 := by simp
    omega
  replace hle1 := Lib.hid hle1; replace hle2 := Lib.hid hle2; replace hlr := Lib.hid hlr; replace K6 := Lib.hid K6; replace hw6 := Lib.hid hw6
  clear K HR hw B0 F6 h0c h1c
  rcases hv with ⟨h1, h2, _, _⟩ | ⟨h1, h2⟩
  · have e1 : onV m R k = (onAt m R k.toNat : Int) := by unfold onV; rw [if_pos h1]
    rw [h2, h1, e1]
    generalize onAt m R k.toNat = oa at *
    clear h2 h1 e1
    have g1 : ((oa : Int) == (if 0 < (oa : Int) then (oa : Int) else 0)) = true := by rw [beq_iff_eq]; split <;> omega
    have g2 : ((oa : Int) == (if (oa : Int) < 0 then 0 else (oa : Int))) = true := by rw [beq_iff_eq]; split <;> omega
    go_wp2_with fail
    refine (len_i K6.out j).mono ?_
    rintro e w7 ⟨rfl, rfl⟩
    rw [hrow.out]
    go_wp2_with fail
    refine (all_i K6.out j).mono ?_
    rintro e w7 ⟨v7, rfl, O7, F7⟩
    rw [hrow.out] at O7
    have hw7 := hw6.out.below F7
    obtain ⟨A7, c7, rfl, r7, _, _⟩ := O7.form
    have B7 := Lib.hid (B6.out.trans (F7.mono B6.out.size))
    clear O7 F7 K6 hw6 B6
    go_wp2_with fail
    refine (same_c2 (ys := natsI ([] : List Nat)) r7 hw7 rfl (by simp [natsI]) hle1.out hle2.out).mono ?_
    rintro e w8 ⟨rfl, F8⟩
    rw [decide_eq_true (rfl : natsI ([] : List Nat) = natsI ([] : List Nat))]
    have B8 := Lib.hid (B7.out.trans (F8.mono B7.out.size))
    clear F8 B7 r7 hw7
    go_wp2
    go_ret
    exact ⟨rfl, B8.out⟩
  · have e1 : onV m R k = 0 := by unfold onV; rw [if_neg (by simp [h1])]
    rw [h2, h1, e1]
    clear h2 h1 e1
    go_wp2_with fail
    refine (len_i K6.out j).mono ?_
    rintro e w7 ⟨rfl, rfl⟩
    rw [hrow.out]
    go_wp2_with fail
    refine (all_i K6.out j).mono ?_
    rintro e w7 ⟨v7, rfl, O7, F7⟩
    rw [hrow.out] at O7
    have hw7 := hw6.out.below F7
    obtain ⟨A7, c7, rfl, r7, _, _⟩ := O7.form
    have B7 := Lib.hid (B6.out.trans (F7.mono B6.out.size))
    clear O7 F7 K6 hw6 B6
    go_wp2_with fail
    refine (same_c2 (ys := natsI ([] : List Nat)) r7 hw7 rfl (by simp [natsI]) hle1.out hle2.out).mono ?_
    rintro e w8 ⟨rfl, F8⟩
    rw [decide_eq_true (rfl : natsI ([] : List Nat) = natsI ([] : List Nat))]
    have B8 := Lib.hid (B7.out.trans (F8.mono B7.out.size))
    clear F8 B7 r7 hw7
    go_wp2
    go_ret
    exact ⟨rfl, B8.out⟩

set_option maxRecDepth 100000 in
set_option maxHeartbeats 4000000 in
theorem same4_nil {av : Nat → Prop} {w : World} {p L M n m c : Nat} {A : Option Addr} {R : Nat → List Nat} (K : ChI w p L M n m R) (HR : RowsAt av w A (rowsOf m R)) (j k : Int) (jn : Nat) (hjn : j = jn) (hj : jn < m) (hrow : rowI R j = ([] : List Nat)) :
    Calls Try.prog 40 #[.pointer (some ⟨p, 0, none⟩), LV n A m c, .int .i64 j, .int .i64 k] w fun e w' => e = .returned (.bool true) ∧ Below w.heap.size w w' := by
  subst hjn
  have ok := Lib.hid K.ok
  have hm := ok.out.hm
  have hn := ok.out.hn
  have h0 : Cel ((w.alloc (.cells #[.int .i64 n, .slice A m c] 61)).alloc (.cells #[] 3)) w.heap.size 0 (.int .i64 n) := (((Cel.new w #[.int .i64 n, .slice A m c] 61 0 _ rfl).alloc (.cells #[] 3)))
  have h1 : Cel ((w.alloc (.cells #[.int .i64 n, .slice A m c] 61)).alloc (.cells #[] 3)) w.heap.size 1 (.slice A m c) := (((Cel.new w #[.int .i64 n, .slice A m c] 61 1 _ rfl).alloc (.cells #[] 3)))
  have b0 := (((Below.refl w.heap.size w).alloc (Nat.le_refl _) (.cells #[.int .i64 n, .slice A m c] 61)).alloc (by simp) (.cells #[] 3))
  replace K := K.below b0 (Nat.le_refl _)
  replace HR := HR.below b0
  have B0 := Lib.hid b0
  clear b0
  have h0c := h0.1; have h1c := h1.1
  clear h0 h1
  obtain ⟨b, off, B, cw, rfl, hbl, hcw, hw, _⟩ := HR jn (by rw [rowsOf_len]; omega)
  rw [rowsOf_get] at hcw hw
  have hrw : R jn = ([] : List Nat) := by rw [← hrow]; unfold rowI; rw [if_pos (Int.natCast_nonneg jn), Int.toNat_natCast]
  rw [hrw] at hcw hw
  have hln : (natsI ([] : List Nat)).length = 0 := by simp [natsI]
  have hl8 : 0 ≤ 8192 := by omega
  rw [hln] at hcw
  clear hrw hbl hln
  replace hrow := Lib.hid hrow
  go_enter Try.func40, Try.ntmps40
  go_wp2_with fail
  refine (first_i K jn).mono ?_
  rintro e w5 ⟨rfl, rfl⟩
  rw [hrow.out]
  simp only [hdOr]
  go_wp2_with fail
  refine (on_i K k).mono ?_
  rintro e w5 ⟨rfl, rfl⟩
  go_wp2_with fail
  refine (on4_c (n := n) HR (rowsOf_len m R).symm (by rw [rowsOf_len]; have := ok.out.hm; omega) (rows_len ok.out.len) k).mono ?_
  rintro e w6 ⟨v, rfl, hv, F6⟩
  replace hv := on4_spec hv ok.out.uniq
  have K6 := K.below F6 (Nat.le_refl _)
  have hw6 := hw.below F6
  have B6 := Lib.hid (B0.out.trans (F6.mono B0.out.size))
  have hlr : (rowI R jn).length ≤ 8192 := K.rowLen jn
  rw [hrow.out] at hlr
  have hle1 : (natsI ([] : List Nat)).length ≤ 1000000 := by
    have h1 : (natsI ([] : List Nat)).length = (([] : List Nat) : List Nat).length := by simp [natsI]
    omega
  have hle2 : 0 ≤ 1000000 := by
    have h1 : (([] : List Nat) : List Nat).length = 0 := by simp
    omega
  replace hle1 := Lib.hid hle1; replace hle2 := Lib.hid hle2; replace hlr := Lib.hid hlr; replace K6 := Lib.hid K6; replace hw6 := Lib.hid hw6
  clear K HR hw B0 F6 h0c h1c hcw
  rcases hv with ⟨h1, h2, _, _⟩ | ⟨h1, h2⟩
  · have e1 : onV m R k = (onAt m R k.toNat : Int) := by unfold onV; rw [if_pos h1]
    rw [h2, h1, e1]
    generalize onAt m R k.toNat = oa at *
    clear h2 h1 e1
    have g1 : ((oa : Int) == (if 0 < (oa : Int) then (oa : Int) else 0)) = true := by rw [beq_iff_eq]; split <;> omega
    have g2 : ((oa : Int) == (if (oa : Int) < 0 then 0 else (oa : Int))) = true := by rw [beq_iff_eq]; split <;> omega
    go_wp2_with fail
    refine (len_i K6.out jn).mono ?_
    rintro e w7 ⟨rfl, rfl⟩
    rw [hrow.out]
    go_wp2_with fail
    refine (all_i K6.out jn).mono ?_
    rintro e w7 ⟨v7, rfl, O7, F7⟩
    rw [hrow.out] at O7
    have hw7 := hw6.out.below F7
    obtain ⟨A7, c7, rfl, r7, _, _⟩ := O7.form
    have B7 := Lib.hid (B6.out.trans (F7.mono B6.out.size))
    clear O7 F7 K6 hw6 B6
    go_wp2_with fail
    refine (same_c2 (ys := natsI ([] : List Nat)) r7 hw7 rfl (by simp [natsI]) hle1.out hle2.out).mono ?_
    rintro e w8 ⟨rfl, F8⟩
    rw [decide_eq_true (rfl : natsI ([] : List Nat) = natsI ([] : List Nat))]
    have B8 := Lib.hid (B7.out.trans (F8.mono B7.out.size))
    clear F8 B7 r7 hw7
    go_wp2
    go_ret
    exact ⟨rfl, B8.out⟩
  · have e1 : onV m R k = 0 := by unfold onV; rw [if_neg (by simp [h1])]
    rw [h2, h1, e1]
    clear h2 h1 e1
    go_wp2_with fail
    refine (len_i K6.out jn).mono ?_
    rintro e w7 ⟨rfl, rfl⟩
    rw [hrow.out]
    go_wp2_with fail
    refine (all_i K6.out jn).mono ?_
    rintro e w7 ⟨v7, rfl, O7, F7⟩
    rw [hrow.out] at O7
    have hw7 := hw6.out.below F7
    obtain ⟨A7, c7, rfl, r7, _, _⟩ := O7.form
    have B7 := Lib.hid (B6.out.trans (F7.mono B6.out.size))
    clear O7 F7 K6 hw6 B6
    go_wp2_with fail
    refine (same_c2 (ys := natsI ([] : List Nat)) r7 hw7 rfl (by simp [natsI]) hle1.out hle2.out).mono ?_
    rintro e w8 ⟨rfl, F8⟩
    rw [decide_eq_true (rfl : natsI ([] : List Nat) = natsI ([] : List Nat))]
    have B8 := Lib.hid (B7.out.trans (F8.mono B7.out.size))
    clear F8 B7 r7 hw7
    go_wp2
    go_ret
    exact ⟨rfl, B8.out⟩

set_option maxRecDepth 100000 in
set_option maxHeartbeats 4000000 in
theorem same4_cons {av : Nat → Prop} {w : World} {p L M n m c : Nat} {A : Option Addr} {R : Nat → List Nat} (K : ChI w p L M n m R) (HR : RowsAt av w A (rowsOf m R)) (j k : Int) (jn : Nat) (hjn : j = jn) (hj : jn < m) (x0 : Nat) (t0 : List Nat) (hrow : rowI R j = (x0 :: t0)) :
    Calls Try.prog 40 #[.pointer (some ⟨p, 0, none⟩), LV n A m c, .int .i64 j, .int .i64 k] w fun e w' => e = .returned (.bool true) ∧ Below w.heap.size w w' := by
  subst hjn
  have ok := Lib.hid K.ok
  have hm := ok.out.hm
  have hn := ok.out.hn
  have h0 : Cel ((w.alloc (.cells #[.int .i64 n, .slice A m c] 61)).alloc (.cells #[] 3)) w.heap.size 0 (.int .i64 n) := (((Cel.new w #[.int .i64 n, .slice A m c] 61 0 _ rfl).alloc (.cells #[] 3)))
  have h1 : Cel ((w.alloc (.cells #[.int .i64 n, .slice A m c] 61)).alloc (.cells #[] 3)) w.heap.size 1 (.slice A m c) := (((Cel.new w #[.int .i64 n, .slice A m c] 61 1 _ rfl).alloc (.cells #[] 3)))
  have b0 := (((Below.refl w.heap.size w).alloc (Nat.le_refl _) (.cells #[.int .i64 n, .slice A m c] 61)).alloc (by simp) (.cells #[] 3))
  replace K := K.below b0 (Nat.le_refl _)
  replace HR := HR.below b0
  have B0 := Lib.hid b0
  clear b0
  have h0c := h0.1; have h1c := h1.1
  clear h0 h1
  obtain ⟨b, off, B, cw, rfl, hbl, hcw, hw, _⟩ := HR jn (by rw [rowsOf_len]; omega)
  rw [rowsOf_get] at hcw hw
  have hrw : R jn = (x0 :: t0) := by rw [← hrow]; unfold rowI; rw [if_pos (Int.natCast_nonneg jn), Int.toNat_natCast]
  rw [hrw] at hcw hw
  have hln : (natsI (x0 :: t0)).length = (t0.length + 1) := by simp [natsI]
  have hl8 : (t0.length + 1) ≤ 8192 := by have := ok.out.len jn; rw [hrw] at this; simpa using this
  rw [hln] at hcw
  clear hrw hbl hln
  obtain ⟨b2, off2, rfl, hc2⟩ := RowAt.get hw (i := 0) (by simp [natsI])
  rw [Nat.add_zero] at hc2
  have hz : (natsI (x0 :: t0)).getD 0 0 = (x0 : Int) := rfl
  rw [hz] at hc2
  clear hz
  replace hrow := Lib.hid hrow
  go_enter Try.func40, Try.ntmps40
  go_wp2_with fail
  refine (first_i K jn).mono ?_
  rintro e w5 ⟨rfl, rfl⟩
  rw [hrow.out]
  simp only [hdOr]
  go_wp2_with fail
  refine (on_i K k).mono ?_
  rintro e w5 ⟨rfl, rfl⟩
  go_wp2_with fail
  refine (on4_c (n := n) HR (rowsOf_len m R).symm (by rw [rowsOf_len]; have := ok.out.hm; omega) (rows_len ok.out.len) k).mono ?_
  rintro e w6 ⟨v, rfl, hv, F6⟩
  replace hv := on4_spec hv ok.out.uniq
  have K6 := K.below F6 (Nat.le_refl _)
  have hw6 := hw.below F6
  have B6 := Lib.hid (B0.out.trans (F6.mono B0.out.size))
  have hlr : (rowI R jn).length ≤ 8192 := K.rowLen jn
  rw [hrow.out] at hlr
  have hle1 : (natsI (x0 :: t0)).length ≤ 1000000 := by
    have h1 : (natsI (x0 :: t0)).length = ((x0 :: t0) : List Nat).length := by simp [natsI]
    omega
  have hle2 : (t0.length + 1) ≤ 1000000 := by
    have h1 : ((x0 :: t0) : List Nat).length = (t0.length + 1) := by simp
    omega
  replace hle1 := Lib.hid hle1; replace hle2 := Lib.hid hle2; replace hlr := Lib.hid hlr; replace K6 := Lib.hid K6; replace hw6 := Lib.hid hw6
  clear K HR hw B0 F6 h0c h1c hcw hc2
  rcases hv with ⟨h1, h2, _, _⟩ | ⟨h1, h2⟩
  · have e1 : onV m R k = (onAt m R k.toNat : Int) := by unfold onV; rw [if_pos h1]
    rw [h2, h1, e1]
    generalize onAt m R k.toNat = oa at *
    clear h2 h1 e1
    have g1 : ((oa : Int) == (if 0 < (oa : Int) then (oa : Int) else 0)) = true := by rw [beq_iff_eq]; split <;> omega
    have g2 : ((oa : Int) == (if (oa : Int) < 0 then 0 else (oa : Int))) = true := by rw [beq_iff_eq]; split <;> omega
    go_wp2_with fail
    refine (len_i K6.out jn).mono ?_
    rintro e w7 ⟨rfl, rfl⟩
    rw [hrow.out]
    go_wp2_with fail
    refine (all_i K6.out jn).mono ?_
    rintro e w7 ⟨v7, rfl, O7, F7⟩
    rw [hrow.out] at O7
    have hw7 := hw6.out.below F7
    obtain ⟨A7, c7, rfl, r7, _, _⟩ := O7.form
    have B7 := Lib.hid (B6.out.trans (F7.mono B6.out.size))
    clear O7 F7 K6 hw6 B6
    go_wp2_with fail
    refine (same_c2 (ys := natsI (x0 :: t0)) r7 hw7 rfl (by simp [natsI]) hle1.out hle2.out).mono ?_
    rintro e w8 ⟨rfl, F8⟩
    rw [decide_eq_true (rfl : natsI (x0 :: t0) = natsI (x0 :: t0))]
    have B8 := Lib.hid (B7.out.trans (F8.mono B7.out.size))
    clear F8 B7 r7 hw7
    go_wp2
    go_ret
    exact ⟨rfl, B8.out⟩
  · have e1 : onV m R k = 0 := by unfold onV; rw [if_neg (by simp [h1])]
    rw [h2, h1, e1]
    clear h2 h1 e1
    go_wp2_with fail
    refine (len_i K6.out jn).mono ?_
    rintro e w7 ⟨rfl, rfl⟩
    rw [hrow.out]
    go_wp2_with fail
    refine (all_i K6.out jn).mono ?_
    rintro e w7 ⟨v7, rfl, O7, F7⟩
    rw [hrow.out] at O7
    have hw7 := hw6.out.below F7
    obtain ⟨A7, c7, rfl, r7, _, _⟩ := O7.form
    have B7 := Lib.hid (B6.out.trans (F7.mono B6.out.size))
    clear O7 F7 K6 hw6 B6
    go_wp2_with fail
    refine (same_c2 (ys := natsI (x0 :: t0)) r7 hw7 rfl (by simp [natsI]) hle1.out hle2.out).mono ?_
    rintro e w8 ⟨rfl, F8⟩
    rw [decide_eq_true (rfl : natsI (x0 :: t0) = natsI (x0 :: t0))]
    have B8 := Lib.hid (B7.out.trans (F8.mono B7.out.size))
    clear F8 B7 r7 hw7
    go_wp2
    go_ret
    exact ⟨rfl, B8.out⟩

theorem same4_c {av : Nat → Prop} {w : World} {p L M n m c : Nat} {A : Option Addr} {R : Nat → List Nat} (K : ChI w p L M n m R) (HR : RowsAt av w A (rowsOf m R)) (j k : Int) :
    Calls Try.prog 40 #[.pointer (some ⟨p, 0, none⟩), LV n A m c, .int .i64 j, .int .i64 k] w fun e w' => e = .returned (.bool true) ∧ Below w.heap.size w w' := by
  by_cases h0 : j < 0
  · exact same4_neg K HR j k h0 (by unfold rowI; rw [if_neg (by omega)])
  by_cases h1 : (m : Int) ≤ j
  · exact same4_big K HR j k (by omega) h1 (by unfold rowI; rw [if_pos (by omega), K.ok.off _ (by omega)])
  obtain ⟨jn, hjn⟩ := Int.eq_ofNat_of_zero_le (show 0 ≤ j by omega)
  cases hr : rowI R j with
  | nil => exact same4_nil K HR j k jn hjn (by omega) hr
  | cons x t => exact same4_cons K HR j k jn hjn (by omega) x t hr
end Go.Proofs.Ytdgcppglpmlgkaa
