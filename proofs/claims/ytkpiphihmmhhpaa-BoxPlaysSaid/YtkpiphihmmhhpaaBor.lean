/- BoxOrders. -/
import Derived.Test.YtkpiphihmmhhpaaBb
import Derived.Test.YtkpiphihmmhhpaaSame
import Derived.Test.YtkpiphihmmhhpaaBits
namespace Go.Proofs.Ytkpiphihmmhhpaa
open Go.RowKit Go.Conc
set_option linter.unusedVariables false
set_option linter.unusedSimpArgs false
set_option maxRecDepth 100000

theorem mask31 (a : Int) : ∃ K : Nat, bits .and .i64 a 31 = (K : Int) ∧ K < 32 := by
  have := and_mask 5 31 (by decide) (by decide) a
  rw [show ((2 ^ 5 : Nat) : Int) = 32 from rfl] at this
  exact ⟨(a % 32).toNat, by rw [this]; omega, by omega⟩

/-- A box that was made since w, and two slices of one's own behind E. -/
structure OrS (w wr : World) (B c cap E : Nat) (v8 v9 : Value) (I U Q : List Int) : Prop where
  s : OneB w wr B c cap (Q.map (Value.int .i64))
  i : OwnI wr E v8 I
  u : OwnI wr E v9 U
  n : v8.ownBlock ≠ v9.ownBlock
  e : B < E ∧ c < E ∧ w.heap.size ≤ E ∧ E ≤ wr.heap.size
theorem OrS.alloc {w wr : World} {B c cap E : Nat} {v8 v9 : Value} {I U Q : List Int} (h : OrS w wr B c cap E v8 v9 I U Q) (ob : Obj) : OrS w (wr.alloc ob) B c cap E v8 v9 I U Q :=
  ⟨h.s.below ((Below.refl _ _).alloc (Nat.le_refl _) ob), h.i.alloc _, h.u.alloc _, h.n, by have := h.e; simp; omega⟩
theorem OrS.below {w wr w2 : World} {B c cap E : Nat} {v8 v9 : Value} {I U Q : List Int} (h : OrS w wr B c cap E v8 v9 I U Q) (F : Below wr.heap.size wr w2) : OrS w w2 B c cap E v8 v9 I U Q :=
  ⟨h.s.below F, h.i.block (fun k hk => F.block k (h.i.lt k hk).2), h.u.block (fun k hk => F.block k (h.u.lt k hk).2), h.n, by have := h.e; have := F.size; omega⟩
theorem OrS.op {w wr w2 : World} {B c cap E : Nat} {v8 v9 : Value} {I U Q Q' : List Int} (h : OrS w wr B c cap E v8 v9 I U Q) (K : BoxS w2 B c cap (Q'.map (Value.int .i64))) (F : FrB (fun k => k = c) wr w2) : OrS w w2 B c cap E v8 v9 I U Q' :=
  ⟨h.s.op K F, h.i.block (fun k hk => F.block k (h.i.lt k hk).2 (fun e => by have := (h.i.lt k hk).1; have := h.e; omega)), h.u.block (fun k hk => F.block k (h.u.lt k hk).2 (fun e => by have := (h.u.lt k hk).1; have := h.e; omega)), h.n, by have := h.e; have := F.size; omega⟩
theorem OneB.grow {w wr w2 : World} {B c cap E : Nat} {buf : List Value} {v : Value} (h : OneB w wr B c cap buf) (hg : wr.grownBy w2 v.ownBlock) (hv : ∀ k, v.ownBlock = some k → E ≤ k) (he : B < E ∧ c < E ∧ w.heap.size ≤ E ∧ E ≤ wr.heap.size) : OneB w w2 B c cap buf :=
  ⟨h.s.frb (FrB.grown hg) (fun e => by have := hv _ e; omega) (fun e => by have := hv _ e; omega), h.lo, h.b.trans ((FrB.grown hg).below h.b.size (fun k hk e => by have := hv _ e; omega))⟩
theorem OrS.grow8 {w wr w2 : World} {B c cap E : Nat} {v8 v9 v' : Value} {I I' U Q : List Int} (h : OrS w wr B c cap E v8 v9 I U Q) (P1 : OwnI w2 E v' I') (P3 : wr.grownBy w2 v8.ownBlock) (P4 : v'.ownBlock = v8.ownBlock ∨ v'.ownBlock = some wr.heap.size) : OrS w w2 B c cap E v' v9 I' U Q :=
  ⟨h.s.grow P3 (fun k hk => (h.i.lt k hk).1) h.e, P1, h.u.beside P3 (.inl h.n), by
    rcases P4 with e | e
    · rw [e]; exact h.n
    · rw [e]; intro e2; have := (h.u.lt _ e2.symm).2; omega, by have := h.e; have := (FrB.grown P3).size; omega⟩
theorem OrS.grow9 {w wr w2 : World} {B c cap E : Nat} {v8 v9 v' : Value} {I U U' Q : List Int} (h : OrS w wr B c cap E v8 v9 I U Q) (P1 : OwnI w2 E v' U') (P3 : wr.grownBy w2 v9.ownBlock) (P4 : v'.ownBlock = v9.ownBlock ∨ v'.ownBlock = some wr.heap.size) : OrS w w2 B c cap E v8 v' I U' Q :=
  ⟨h.s.grow P3 (fun k hk => (h.u.lt k hk).1) h.e, h.i.beside P3 (.inl (fun e => h.n e.symm)), P1, by
    rcases P4 with e | e
    · rw [e]; exact h.n
    · rw [e]; intro e2; have := (h.i.lt _ e2).2; omega, by have := h.e; have := (FrB.grown P3).size; omega⟩

set_option maxHeartbeats 8000000 in
theorem orders_walk (a : Int) (A : Option Addr) (cA : Nat) (xs : List Int) (T : Option Addr) (cT : Nat) (ts : List Bool) (w : World) (hr : RowAt (fun z : Int => [.int .i64 z]) 1 w A xs) (ht : RowAt (fun z : Bool => [.bool z]) 1 w T ts) :
    Calls Try.prog 4 #[.int .i64 a, .slice A xs.length cA, .slice T ts.length cT] w fun e w' => e = .returned (.bool true) ∧ Below w.heap.size w w' := by
  have HR := Lib.hid hr; have HT := Lib.hid ht
  clear hr ht
  by_cases hbig : 60 < xs.length
  · have hb1 : decide ((60 : Int) < (xs.length : Int)) = true := by simp; omega
    go_enter Try.func4, Try.ntmps4
    go_wp2_with fail
    refine (alive10_c w).mono ?_
    rintro e w1 ⟨rfl, hB1⟩
    have HB1 := Lib.hid hB1
    clear hB1
    go_wp2
    go_ret
    exact ⟨rfl, HB1.out⟩
  have hb1 : decide ((60 : Int) < (xs.length : Int)) = false := by simp; omega
  have hb3 : decide (60 < xs.length) = false := by simp; omega
  by_cases hsm : ts.length < xs.length
  · replace hbig := Lib.hid hbig
    have hb2 : decide ((ts.length : Int) < (xs.length : Int)) = true := by simp; omega
    go_enter Try.func4, Try.ntmps4
    go_wp2_with fail
    refine (alive10_c w).mono ?_
    rintro e w1 ⟨rfl, hB1⟩
    have HB1 := Lib.hid hB1
    clear hB1
    go_wp2
    go_ret
    exact ⟨rfl, HB1.out⟩
  have hb2 : decide ((ts.length : Int) < (xs.length : Int)) = false := by simp; omega
  have hb4 : decide (ts.length < xs.length) = false := by simp; omega
  obtain ⟨cap, hcp, hcp2⟩ := mask31 a
  replace hbig := Lib.hid hbig; replace hsm := Lib.hid hsm
  go_enter Try.func4, Try.ntmps4
  go_wp2_with fail
  refine (alive10_c w).mono ?_
  rintro e w1 ⟨rfl, hB1⟩
  have HB1 := Lib.hid hB1
  clear hB1
  go_wp2_with fail
  refine (new_int w1 cap (cap := cap) (by unfold capN; omega)).mono ?_
  rintro e w2 ⟨B, c, rfl, S, l1, l2, F⟩
  have S0 : OneB w w2 B c cap (([] : List Int).map (Value.int .i64)) := ⟨S, by have := HB1.out.size; omega, HB1.out.trans (F.mono HB1.out.size)⟩
  have O1 := OwnI.lit w2 w2.heap.size (Nat.le_refl _) [] #[] rfl (by simp)
  have O2 := OwnI.lit (w2.alloc (.cells #[] 3)) w2.heap.size (by simp) [] #[] rfl (by simp)
  have B0 := Below.alloc (Below.alloc (Below.refl w2.heap.size w2) (Nat.le_refl _) (.cells #[] 3)) (by simp) (.cells #[] 3)
  have T1 : Hid (OrS w ((w2.alloc (.cells #[] 3)).alloc (.cells #[] 3)) B c cap w2.heap.size (.slice (some ⟨w2.heap.size, 0, none⟩) 0 0) (.slice (some ⟨w2.heap.size + 1, 0, none⟩) 0 0) [] [] []) :=
    Lib.hid ⟨S0.below B0, O1.alloc _, by simpa using O2, by simp [Value.ownBlock], by have := S0.s.lt; have := S0.b.size; simp; omega⟩
  clear S l1 l2 F S0 O1 O2 B0 HB1
  go_wp2_with fail
  generalize (w2.alloc (.cells #[] 3)).alloc (.cells #[] 3) = W2 at *
  generalize w2.heap.size = E at *
  go_loopw [8, 9, 35] (fun v8 v9 ii wr => ∃ (i : Nat) (I U Q : List Int), ii = .int .i64 i ∧ Hid (OrS w wr B c cap E v8 v9 I U Q) ∧ Hid (I = U ++ Q) ∧ Hid (I.length ≤ i) ∧ Hid (i ≤ xs.length)) (fun _ _ ii _ => xs.length - (intOf ii).toNat)
  case atStart => exact ⟨0, [], [], [], rfl, T1, Lib.hid rfl, Lib.hid (Nat.zero_le _), Lib.hid (Nat.zero_le _)⟩
  case round =>
    clear T1
    obtain ⟨i, I, U, Q, rfl, S, hI, hIi, hi⟩ := hrel
    by_cases hlt : i < xs.length
    · have hi61 : i < 61 := by have := hbig.out; omega
      have hlt2 : i < ts.length := by have := hsm.out; omega
      obtain ⟨b, off, rfl, hbl, hc⟩ := HR.out i hlt
      have hz0 := (S.out.s.b.cell (p := ⟨b, off + i * 1 + 0, none⟩) hbl).trans (hc 0 _ rfl)
      rw [Nat.add_zero, Nat.mul_one] at hz0
      obtain ⟨y, hy⟩ : ∃ y, y = xs[i] := ⟨_, rfl⟩
      rw [← hy] at hz0
      obtain ⟨b2, off2, rfl, hbl2, hc2⟩ := HT.out i hlt2
      have hcT := Lib.hid (And.intro hbl2 (hc2 0 _ rfl))
      obtain ⟨tk, htk⟩ : ∃ tk, tk = ts[i] := ⟨_, rfl⟩
      rw [← htk] at hcT
      obtain ⟨A8, c8, rfl⟩ := S.out.i.slice
      obtain ⟨A9, c9, rfl⟩ := S.out.u.slice
      have hl8 : I.length ≤ 60 := by have := hIi.out; omega
      have hl9 : U.length ≤ 60 := by have := hI.out; rw [this] at hl8; simp at hl8; omega
      have hlQ : I.length = U.length + Q.length := by rw [hI.out]; simp
      have hlQH := Lib.hid hlQ
      have hsz := Lib.hid (show (I.length ≤ 100000000 ∧ U.length ≤ 100000000) by omega)
      clear hc hc2 hbl2 hy htk
      by_cases hok : Q.length < cap
      · have hd : decide ((Q.map (Value.int .i64)).length < cap) = true := by simp; omega
        have e1 : decide ((I.length : Int) - (U.length : Int) < (cap : Int)) = true := by simp; omega
        replace hok := Lib.hid hok; replace hlQ := Lib.hid hlQ
        go_wp2_with fail
        refine (post_int S.out.s.s y).mono ?_
        rintro e w3 ⟨rfl, K, F⟩
        rw [if_pos (by simpa using hok.out)] at K
        have S2 := Lib.hid (S.out.op (Q' := Q ++ [y]) (by simpa using K) F)
        rw [hd]
        clear K F S hd
        go_wp2_with (first | (at_builtin; refine append_int rfl rfl Try.underlying37 rfl (S2.out.i.alloc _) rfl (cell_new1 _ _ _) hsz.out.1 (by have := S2.out.e; simp; omega) ?_) | fail)
        intro v8 w4 P1 P2 P3 P4
        have S3 := Lib.hid ((S2.out.alloc (.cells #[.int .i64 y] 3)).grow8 P1 P3 (by simpa using P4))
        clear P1 P2 P3 P4 S2
        have hQ' := Lib.hid (show I ++ [y] = U ++ (Q ++ [y]) by rw [hI.out]; simp)
        have hI1 := Lib.hid (show (I ++ [y]).length ≤ i + 1 by have := hIi.out; simp; omega)
        generalize I ++ [y] = I1 at *
        generalize Q ++ [y] = Q1 at *
        clear hI hIi e1
        cases tk with
        | false =>
          have ht0 := (S3.out.s.b.cell (p := ⟨b2, off2 + i * 1 + 0, none⟩) hcT.out.1).trans hcT.out.2
          rw [Nat.add_zero, Nat.mul_one] at ht0
          go_wp2
          go_roundw
          case rel => exact ⟨i + 1, I1, U, Q1, by go_num, S3, hQ', hI1, Lib.hid (by omega)⟩
          case measure => simp [intOf]; omega
        | true =>
          have ht0 := (S3.out.s.b.cell (p := ⟨b2, off2 + i * 1 + 0, none⟩) hcT.out.1).trans hcT.out.2
          rw [Nat.add_zero, Nat.mul_one] at ht0
          go_wp2_with fail
          refine (fetch_int S3.out.s.s).mono ?_
          rintro e w5 ⟨rfl, K, F⟩
          cases Q1 with
          | nil =>
            have S4 := Lib.hid (S3.out.op (Q' := []) K F)
            rw [show decide (List.map (Value.int .i64) [] ≠ []) = false from rfl, show (List.map (Value.int .i64) []).headD (.int .i64 0) = .int .i64 0 from rfl]
            clear K F S3 ht0
            go_wp2
            go_roundw
            case rel => exact ⟨i + 1, I1, U, [], by go_num, S4, hQ', hI1, Lib.hid (by omega)⟩
            case measure => simp [intOf]; omega
          | cons q Q2 =>
            have S4 := Lib.hid (S3.out.op (Q' := Q2) K F)
            rw [show decide (List.map (Value.int .i64) (q :: Q2) ≠ []) = true from rfl, show (List.map (Value.int .i64) (q :: Q2)).headD (.int .i64 0) = .int .i64 q from rfl]
            clear K F S3 ht0
            go_wp2_with (first | (at_builtin; refine append_int rfl rfl Try.underlying37 rfl (S4.out.u.alloc _) rfl (cell_new1 _ _ _) hsz.out.2 (by have := S4.out.e; simp; omega) ?_) | fail)
            intro v9 w6 P1 P2 P3 P4
            have S5 := Lib.hid ((S4.out.alloc (.cells #[.int .i64 q] 3)).grow9 P1 P3 (by simpa using P4))
            clear P1 P2 P3 P4 S4
            go_wp2
            go_roundw
            case rel => exact ⟨i + 1, I1, U ++ [q], Q2, by go_num, S5, Lib.hid (by have := hQ'.out; rw [this]; simp), hI1, Lib.hid (by omega)⟩
            case measure => simp [intOf]; omega
      · have hd : decide ((Q.map (Value.int .i64)).length < cap) = false := by simp; omega
        have e1 : decide ((I.length : Int) - (U.length : Int) < (cap : Int)) = false := by simp; omega
        replace hok := Lib.hid hok; replace hlQ := Lib.hid hlQ
        go_wp2_with fail
        refine (post_int S.out.s.s y).mono ?_
        rintro e w4 ⟨rfl, K, F⟩
        rw [if_neg (by simpa using hok.out)] at K
        have S3 := Lib.hid (S.out.op (Q' := Q) K F)
        rw [hd]
        clear K F S hd
        have hQ' := hI
        have hI1 := Lib.hid (show I.length ≤ i + 1 by have := hIi.out; omega)
        obtain ⟨v8, hv8⟩ : ∃ v8, v8 = Value.slice A8 I.length c8 := ⟨_, rfl⟩
        rw [← hv8] at S3
        replace hv8 := Lib.hid hv8
        obtain ⟨I1, hI1e⟩ : ∃ I1, I1 = I := ⟨_, rfl⟩
        obtain ⟨Q1, hQ1e⟩ : ∃ Q1, Q1 = Q := ⟨_, rfl⟩
        rw [← hI1e, ← hQ1e] at S3 hQ'
        rw [← hI1e] at hI1
        clear hI1e hQ1e
        cases tk with
        | false =>
          have ht0 := (S3.out.s.b.cell (p := ⟨b2, off2 + i * 1 + 0, none⟩) hcT.out.1).trans hcT.out.2
          rw [Nat.add_zero, Nat.mul_one] at ht0
          go_wp2
          go_roundw
          case rel => exact ⟨i + 1, I1, U, Q1, by go_num, (hv8.out ▸ S3), hQ', hI1, Lib.hid (by omega)⟩
          case measure => simp [intOf]; omega
        | true =>
          have ht0 := (S3.out.s.b.cell (p := ⟨b2, off2 + i * 1 + 0, none⟩) hcT.out.1).trans hcT.out.2
          rw [Nat.add_zero, Nat.mul_one] at ht0
          go_wp2_with fail
          refine (fetch_int S3.out.s.s).mono ?_
          rintro e w5 ⟨rfl, K, F⟩
          cases Q1 with
          | nil =>
            have S4 := Lib.hid (S3.out.op (Q' := []) K F)
            rw [show decide (List.map (Value.int .i64) [] ≠ []) = false from rfl, show (List.map (Value.int .i64) []).headD (.int .i64 0) = .int .i64 0 from rfl]
            clear K F S3 ht0
            go_wp2
            go_roundw
            case rel => exact ⟨i + 1, I1, U, [], by go_num, (hv8.out ▸ S4), hQ', hI1, Lib.hid (by omega)⟩
            case measure => simp [intOf]; omega
          | cons q Q2 =>
            have S4 := Lib.hid (S3.out.op (Q' := Q2) K F)
            rw [show decide (List.map (Value.int .i64) (q :: Q2) ≠ []) = true from rfl, show (List.map (Value.int .i64) (q :: Q2)).headD (.int .i64 0) = .int .i64 q from rfl]
            clear K F S3 ht0
            go_wp2_with (first | (at_builtin; refine append_int rfl rfl Try.underlying37 rfl (S4.out.u.alloc _) rfl (cell_new1 _ _ _) hsz.out.2 (by have := S4.out.e; simp; omega) ?_) | fail)
            intro v9 w6 P1 P2 P3 P4
            have S5 := Lib.hid ((S4.out.alloc (.cells #[.int .i64 q] 3)).grow9 P1 P3 (by simpa using P4))
            clear P1 P2 P3 P4 S4
            go_wp2
            go_roundw
            case rel => exact ⟨i + 1, I1, U ++ [q], Q2, by go_num, (hv8.out ▸ S5), Lib.hid (by have := hQ'.out; rw [this]; simp), hI1, Lib.hid (by omega)⟩
            case measure => simp [intOf]; omega
    · obtain ⟨A8, c8, rfl⟩ := S.out.i.slice
      have hge : ¬ ((i : Int) < (xs.length : Int)) := by omega
      have hl8 : I.length ≤ 60 := by have := hIi.out; have := hi.out; have := hbig.out; omega
      have hl9 := congrArg List.length hI.out
      rw [List.length_append] at hl9
      have hsz := Lib.hid (show I.length ≤ 60 ∧ U.length ≤ 60 ∧ Q.length ≤ 60 by omega)
      replace hlt := Lib.hid hlt
      clear hl8 hl9
      go_wp2_with fail
      refine (all_int S.out.s.s).mono ?_
      rintro e w3 ⟨v, rfl, O, K, F⟩
      have S2 := Lib.hid (S.out.op (Q' := Q) K F)
      have hbase := Lib.hid (show E ≤ w3.heap.size by have := S.out.e; have := F.size; omega)
      replace O := Lib.hid O
      clear K F S
      go_wp2_with (first | (at_builtin; refine append_ints rfl rfl Try.underlying37 rfl S2.out.u rfl O.out (by have := hsz.out; omega) (by have := hsz.out; omega) hbase.out ?_) | fail)
      intro v9 w4 P1 P2 P3 P4
      have S3 := Lib.hid (S2.out.grow9 P1 P3 P4)
      rw [← hI.out] at S3
      clear P1 P2 P3 P4 S2 O
      obtain ⟨A9, c9, rfl⟩ := S3.out.u.slice
      go_wp2_with fail
      refine (same_c (S3.out.i.row).1 (S3.out.u.row).1 (by have := hsz.out; omega) (by have := hsz.out; omega)).mono ?_
      rintro e w5 ⟨rfl, F⟩
      have S4 := Lib.hid (S3.out.below F)
      clear F S3
      rw [decide_eq_true rfl]
      go_wp2_with fail
      refine (len_int S4.out.s.s).mono ?_
      rintro e w6 ⟨rfl, rfl⟩
      rw [List.length_map]
      have hle : decide ((Q.length : Int) ≤ (cap : Int)) = true := by have := S4.out.s.s.le.2; rw [List.length_map] at this; simp; omega
      have hle2 : decide (Q.length ≤ cap) = true := by have := S4.out.s.s.le.2; rw [List.length_map] at this; simp; omega
      go_wp2
      go_ret
      exact ⟨rfl, S4.out.s.b⟩
end Go.Proofs.Ytkpiphihmmhhpaa
