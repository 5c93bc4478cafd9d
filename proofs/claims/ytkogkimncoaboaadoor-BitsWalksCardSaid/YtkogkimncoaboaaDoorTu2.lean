/- BitsTurns. -/
import Derived.Test.YtkogkimncoaboaaDoorSetP
namespace Go.Proofs.YtkogkimncoaboaaDoor
open Go.RowKit
set_option linter.unusedVariables false
set_option linter.unusedSimpArgs false
set_option linter.unusedSectionVars false
set_option maxRecDepth 100000

theorem St2.frb {S : Nat → Prop} {w wr w2 : World} {p g : Nat} {X : List Bool} (h : St2 w wr p g X) (F : FrB S wr w2) (hp : ¬ S p) (hg : ¬ S g) (hl : ∀ k, k < w.heap.size → ¬ S k) : St2 w w2 p g X :=
  ⟨h.s.frb F hp hg, h.b.trans (F.below h.b.size hl), h.lp, h.lg, h.t⟩
theorem St2.low {B : Nat} {w wr w2 : World} {p g : Nat} {X : List Bool} (h : St2 w wr p g X) (F : Below B wr w2) (hp : p < B) (hg : g < B) (hB : w.heap.size ≤ B) : St2 w w2 p g X := by
  obtain ⟨ws, s⟩ := h.s
  have hF : FrB (fun k => B ≤ k) wr w2 := ⟨F.os, F.tape, F.output, F.size, fun k _ hk => F.block k (by omega)⟩
  exact ⟨⟨ws, s.frb hF (by omega) (by omega)⟩, h.b.trans (F.mono hB), h.lp, h.lg, h.t⟩
theorem row_at1 {w : World} {A : Option Addr} {xs : List Int} (h : RowAt (fun x : Int => [.int .i64 x]) 1 w A xs) {i : Nat} (hi : i < xs.length) : ∃ b off, A = some ⟨b, off, none⟩ ∧ b < w.heap.size ∧ ∀ (j : Nat) (hj : j < xs.length), w.cell? ⟨b, off + j, none⟩ = some (.int .i64 xs[j]) := by
  obtain ⟨b, off, rfl, hb, _⟩ := h i hi
  refine ⟨b, off, rfl, hb, fun j hj => ?_⟩
  obtain ⟨b', off', e, hb', hc⟩ := h j hj
  injection e with e
  injection e with e1 e2
  subst e1; subst e2
  have := hc 0 _ rfl
  rwa [Nat.add_zero, Nat.mul_one] at this
/-- The numbers that are put in. -/
def m255 (x : Int) : Int := bits .and .i64 x 255
theorem drop_step {L : List Int} {i : Nat} (h : i < L.length) : L.drop (L.length - (i + 1)) = L[L.length - 1 - i] :: L.drop (L.length - i) := by
  have h1 : L.length - (i + 1) < L.length := by omega
  rw [List.drop_eq_getElem_cons h1]
  congr 2 <;> omega
theorem take_step {L : List Int} {i : Nat} (h : i < L.length) : L.take (i + 1) = L.take i ++ [L[i]] := by simp
theorem get_idx {L : List Int} {a b : Nat} {ha : a < L.length} (h : a = b) : L[a] = L[b]'(h ▸ ha) := by subst h; rfl
theorem mem_wrap1 {n i : Nat} (hi : i < n) (hn : n < 1000) : wrap64 ((n : Int) - 1) = (n : Int) - 1 ∧ wrap64 ((n : Int) - 1 - (i : Int)) = ((n - 1 - i : Nat) : Int) := by
  unfold wrap64; omega

set_option maxHeartbeats 8000000 in
theorem turns2_walk (A0 : Option Addr) (c0 : Nat) (xs : List Int) (A1 : Option Addr) (c1 : Nat) (ys : List Int) (k : Int) (w : World) (hT : Tab w) (hr : RowAt (fun x : Int => [.int .i64 x]) 1 w A0 xs) (hr1 : RowAt (fun x : Int => [.int .i64 x]) 1 w A1 ys) :
    Calls Tryd.prog 6 #[.slice A0 xs.length c0, .slice A1 ys.length c1, .int .i64 k] w fun e w' => e = .returned (.bool true) ∧ Below w.heap.size w w' := by
  have HR := Lib.hid hr
  have HR1 := Lib.hid hr1
  have HT := Lib.hid hT
  clear hr hr1 hT
  by_cases hbig : 40 < xs.length ∨ 40 < ys.length
  · have hbig := Lib.hid hbig
    go_enter Tryd.func6, Tryd.ntmps6
    go_wp2_with fail
    refine (alive02_c w HT.out).mono ?_
    rintro e w1 ⟨rfl, hB1⟩
    have HB1 := Lib.hid hB1
    clear hB1
    by_cases h1 : 40 < xs.length
    · have e1 : decide ((40 : Int) < (xs.length : Int)) = true := by simp; omega
      go_wp2
      go_ret
      exact ⟨rfl, HB1.out⟩
    · have e1 : decide ((40 : Int) < (xs.length : Int)) = false := by simp; omega
      have h2 : 40 < ys.length := by have := hbig.out; omega
      have e2 : decide ((40 : Int) < (ys.length : Int)) = true := by simp; omega
      go_wp2
      go_ret
      exact ⟨rfl, HB1.out⟩
  have e1 : decide ((40 : Int) < (xs.length : Int)) = false := by simp; omega
  have e2 : decide ((40 : Int) < (ys.length : Int)) = false := by simp; omega
  have b1 : Hid (xs.length ≤ 40) := Lib.hid (by omega)
  have b2 : Hid (ys.length ≤ 40) := Lib.hid (by omega)
  obtain ⟨M, hM⟩ : ∃ M, M = xs.map m255 := ⟨_, rfl⟩
  have hMl : Hid (M.length = xs.length) := Lib.hid (by rw [hM, List.length_map])
  have hMi : Hid (∀ i (h : i < xs.length), bits .and .i64 xs[i] 255 = M[i]'(by rw [hMl.out]; exact h)) := Lib.hid (fun i h => by subst hM; rw [List.getElem_map]; rfl)
  replace hbig := Lib.hid hbig
  clear hM
  go_enter Tryd.func6, Tryd.ntmps6
  go_wp2_with fail
  refine (alive02_c w HT.out).mono ?_
  rintro e w1 ⟨rfl, hB1⟩
  go_wp2_with fail
  refine (new_s w1 200).mono ?_
  rintro e w2 ⟨p, g, rfl, S, lp, lg, B⟩
  have S0 := Lib.hid (St2.new HT.out hB1 S lp lg B)
  clear hB1 S lp lg B
  go_wp2_with fail
  refine (new_s w2 200).mono ?_
  rintro e w3 ⟨p', g', rfl, S, lp, lg, B⟩
  have T0 := Lib.hid (St2.new HT.out S0.out.b S lp lg B)
  have S1 := Lib.hid (S0.out.below B)
  have hd := Lib.hid (show p < w2.heap.size ∧ g < w2.heap.size ∧ w2.heap.size ≤ p' ∧ w2.heap.size ≤ g' from ⟨S0.out.s.lt.1, S0.out.s.lt.2.1, lp, lg⟩)
  have hx0 : List.replicate (capB 200) false = ofS 200 (memI []) := by rw [show capB 200 = 200 from rfl, ofS_false]; exact ofS_ext fun i _ => by unfold memI; simp
  rw [hx0] at S1 T0
  clear S0 S lp lg B hx0
  generalize w2.heap.size = D at *
  go_wp2_with fail
  go_loopw [38] (fun ii wr => ∃ (i : Nat), ii = .int .i64 i ∧ Hid (St2 w wr p g (ofS 200 (memI (M.take i)))) ∧ Hid (St2 w wr p' g' (ofS 200 (memI (M.drop (M.length - i))))) ∧ Hid (i ≤ xs.length)) (fun ii _ => xs.length - (intOf ii).toNat)
  case atStart => exact ⟨0, rfl, by rw [List.take_zero]; exact S1, by rw [Nat.sub_zero, List.drop_length]; exact T0, Lib.hid (Nat.zero_le _)⟩
  case round =>
    clear S1 T0
    obtain ⟨i, rfl, S, T, hi⟩ := hrel
    by_cases hlt : i < xs.length
    · have hi41 : i < 41 := by have := b1.out; omega
      obtain ⟨b, off, rfl, hbl, hc⟩ := row_at1 HR.out hlt
      have hlt2 : xs.length - 1 - i < xs.length := by omega
      have hz0 := (S.out.b.cell (p := ⟨b, off + i, none⟩) hbl).trans (hc i hlt)
      have hz1 := (S.out.b.cell (p := ⟨b, off + (xs.length - 1 - i), none⟩) hbl).trans (hc (xs.length - 1 - i) hlt2)
      obtain ⟨ew1, ew2⟩ := mem_wrap1 (n := xs.length) hlt (by have := b1.out; omega)
      have eM := Lib.hid (hMi.out i hlt)
      have eM1 := Lib.hid (hMi.out (xs.length - 1 - i) hlt2)
      obtain ⟨r, hr⟩ : ∃ r, r = xs.length - 1 - i := ⟨_, rfl⟩
      obtain ⟨z, hz⟩ : ∃ z, z = xs[i] := ⟨_, rfl⟩
      obtain ⟨z1, hzz⟩ : ∃ z1, z1 = xs[xs.length - 1 - i] := ⟨_, rfl⟩
      rw [← hz] at hz0 eM
      rw [← hzz] at hz1 eM1
      rw [← hr] at hz1 ew2 
      have hr41 : r < xs.length := by omega
      have ew3 : IntKind.i64.wrap (r : Int) = (r : Int) := by rw [IntKind.wrap_i64]; have := b1.out; omega
      have S2t : Hid (putL (ofS 200 (memI (M.take i))) (bits .and .i64 z 255) = ofS 200 (memI (M.take (i + 1)))) := Lib.hid (by rw [put_snoc, eM.out, take_step (by rw [hMl.out]; exact hlt)])
      have T2t : Hid (putL (ofS 200 (memI (M.drop (M.length - i)))) (bits .and .i64 z1 255) = ofS 200 (memI (M.drop (M.length - (i + 1))))) := Lib.hid (by
        rw [put_cons, eM1.out, drop_step (by rw [hMl.out]; exact hlt), get_idx (L := M) (show xs.length - 1 - i = M.length - 1 - i by rw [hMl.out])])
      clear hbl hc hz hzz hr eM eM1 hlt2
      go_wp2_with fail
      refine (put_s S.out.s _).mono ?_
      rintro e w5 ⟨rfl, Q, F⟩
      rw [S2t.out] at Q
      have S3 := Lib.hid (S.out.put Q F)
      have hdd := hd.out
      have T3 := Lib.hid (T.out.frb F (fun hh => hh.elim (fun e => by omega) (fun e => by omega)) (fun hh => hh.elim (fun e => by omega) (fun e => by omega)) (fun k hk hh => hh.elim (fun e => by have := S.out.lp; omega) (fun e => by have := S.out.lg; omega)))
      have hz2 := (F.below S.out.b.size (fun k hk hh => hh.elim (fun e => by have := S.out.lp; omega) (fun e => by have := S.out.lg; omega)))
      have hbw : b < w.heap.size := by
        obtain ⟨b2, off2, e2, hb2, _⟩ := HR.out i hlt
        injection e2 with e2; injection e2 with e2 e3; omega
      have hz3 := (hz2.cell (p := ⟨b, off + r, none⟩) hbw).trans hz1
      clear Q F S T hdd hz2 hz1 hbw hz0
      go_wp2_with fail
      refine (put_s T3.out.s _).mono ?_
      rintro e w6 ⟨rfl, Q, F⟩
      rw [T2t.out] at Q
      have T4 := Lib.hid (T3.out.put Q F)
      have hdd := hd.out
      have S4 := Lib.hid (S3.out.frb F (fun hh => hh.elim (fun e => by omega) (fun e => by omega)) (fun hh => hh.elim (fun e => by omega) (fun e => by omega)) (fun k hk hh => hh.elim (fun e => by have := T3.out.lp; omega) (fun e => by have := T3.out.lg; omega)))
      clear Q F S3 T3 hdd hz3
      go_wp2
      go_roundw
      case rel => exact ⟨i + 1, by go_num, S4, T4, Lib.hid (by omega)⟩
      case measure => simp [intOf]; omega
    · obtain rfl : i = xs.length := by have := hi.out; omega
      have S1 := Lib.hid (show St2 w wr p g (ofS 200 (memI M)) by have := S.out; rwa [List.take_of_length_le (by rw [hMl.out]; exact Nat.le_refl _)] at this)
      have T1 := Lib.hid (show St2 w wr p' g' (ofS 200 (orI M [])) by have := T.out; rw [hMl.out, Nat.sub_self, List.drop_zero, ← orI_nil] at this; exact this)
      have hB := Below.alloc (Below.refl wr.heap.size wr) (Nat.le_refl _) (.cells #[] 3)
      have S2 := Lib.hid (S1.out.below hB)
      have T2 := Lib.hid (T1.out.below hB)
      have O2 := OwnI.lit wr wr.heap.size (Nat.le_refl _) [] #[] rfl (by decide)
      replace O2 := Lib.hid (show OwnI (wr.alloc (.cells #[] 3)) wr.heap.size (.slice (some ⟨wr.heap.size, 0, none⟩) 0 0) [] from O2)
      have hE := Lib.hid (show p < wr.heap.size ∧ g < wr.heap.size ∧ p' < wr.heap.size ∧ g' < wr.heap.size ∧ w.heap.size ≤ wr.heap.size from ⟨S1.out.s.lt.1, S1.out.s.lt.2.1, T1.out.s.lt.1, T1.out.s.lt.2.1, S1.out.b.size⟩)
      have hEs := Lib.hid (show wr.heap.size ≤ (wr.alloc (.cells #[] 3)).heap.size by simp)
      clear S T S1 T1 hB hlt hMi hi
      go_wp2_with fail
      generalize wr.alloc (.cells #[] 3) = W2 at *
      generalize wr.heap.size = E at *
      go_loopw [11, 62] (fun fv ii wr2 => ∃ (i : Nat) (F : List Int), ii = .int .i64 i ∧ Hid (St2 w wr2 p g (ofS 200 (memI M))) ∧ Hid (St2 w wr2 p' g' (ofS 200 (orI M F))) ∧ Hid (Fresh 200 M F) ∧ Hid (OwnI wr2 E fv F) ∧ Hid (F.length ≤ i) ∧ Hid (i ≤ ys.length) ∧ Hid (E ≤ wr2.heap.size)) (fun _ ii _ => ys.length - (intOf ii).toNat)
      case atStart => exact ⟨0, [], rfl, S2, T2, Lib.hid (Fresh.nil _ _), O2, Lib.hid (Nat.le_refl _), Lib.hid (Nat.zero_le _), hEs⟩
      case round =>
        clear S2 T2 O2 hEs
        obtain ⟨i, F, rfl, S, T, hF, O, hFl, hi, hEs⟩ := hrel
        by_cases hlt : i < ys.length
        · have hi41 : i < 41 := by have := b2.out; omega
          obtain ⟨b, off, rfl, hbl, hc⟩ := row_at1 HR1.out hlt
          have hz0 := (S.out.b.cell (p := ⟨b, off + i, none⟩) hbl).trans (hc i hlt)
          generalize ys[i] = z at *
          clear hc hbl
          obtain ⟨v, hv⟩ : ∃ v, v = bits .and .i64 z 255 := ⟨_, rfl⟩
          have hv2 := hv.symm
          replace hv := Lib.hid hv
          go_wp2_with fail
          refine (put_s T.out.s _).mono ?_
          rintro e w5 ⟨rfl, Q, Fr⟩
          have hdd := hd.out
          have hEE := hE.out
          have S3 := Lib.hid (S.out.frb Fr (fun hh => hh.elim (fun e => by omega) (fun e => by omega)) (fun hh => hh.elim (fun e => by omega) (fun e => by omega)) (fun k hk hh => hh.elim (fun e => by have := T.out.lp; omega) (fun e => by have := T.out.lg; omega)))
          have O3 := Lib.hid (O.out.block (fun k hk => Fr.block k (O.out.lt k hk).2 (fun hh => by have := (O.out.lt k hk).1; exact hh.elim (fun e => by omega) (fun e => by omega))))
          have T3 := Lib.hid (T.out.put Q Fr)
          have hE3 := Lib.hid (Nat.le_trans hEs.out Fr.size)
          clear Q Fr S T O hdd hEE hz0 hEs
          cases hp : putB (ofS 200 (orI M F)) v with
          | false =>
            rw [put_no hp] at T3
            clear hp
            go_wp2
            go_roundw
            case rel => exact ⟨i + 1, F, by go_num, S3, T3, hF, O3, Lib.hid (by have := hFl.out; omega), Lib.hid (by omega), hE3⟩
            case measure => simp [intOf]; omega
          | true =>
            obtain ⟨hF2, hT2⟩ := fresh_yes hF.out hp
            rw [hT2] at T3
            replace hF2 := Lib.hid hF2
            have hFb := Lib.hid (show F.length ≤ 100000000 by have := hFl.out; omega)
            clear hp hT2
            go_wp2_with (first | (at_builtin; refine append_int rfl rfl Tryd.underlying33 rfl (O3.out.alloc _) rfl (cell_new1 _ _ _) hFb.out (Nat.le_trans hE3.out (by simp)) ?_))
            intro v' w7 G1 G2 G3 G4
            have hEE := hE.out
            have hBa := Below.alloc (Below.refl w5.heap.size w5) (Nat.le_refl _) (.cells #[.int .i64 v] 3)
            have S4 := Lib.hid ((S3.out.below hBa).low G2 hEE.1 hEE.2.1 hEE.2.2.2.2)
            have T4 := Lib.hid ((T3.out.below hBa).low G2 hEE.2.2.1 hEE.2.2.2.1 hEE.2.2.2.2)
            have hE4 := Lib.hid (show E ≤ w7.heap.size from Nat.le_trans hE3.out (Nat.le_trans (by simp) G2.size))
            replace G1 := Lib.hid G1
            clear G2 G3 G4 hEE hBa S3 T3 O3
            go_wp2
            go_roundw
            case rel => exact ⟨i + 1, _, by go_num, S4, T4, hF2, G1, Lib.hid (by have := hFl.out; simp; omega), Lib.hid (by omega), hE4⟩
            case measure => simp [intOf]; omega
        · have hF40 := Lib.hid (show F.length ≤ 40 by have := hFl.out; have := hi.out; have := b2.out; omega)
          obtain ⟨A, c, rfl⟩ := O.out.slice
          have T' := Lib.hid (show St2 w wr p' g' (ofS 200 (orI M (F.drop 0))) from T.out)
          clear T
          go_wp2_with fail
          clear hlt hi hFl
          go_loopw [78] (fun jj wr3 => ∃ (j : Nat), jj = .int .i64 j ∧ Hid (St2 w wr3 p g (ofS 200 (memI M))) ∧ Hid (St2 w wr3 p' g' (ofS 200 (orI M (F.drop j)))) ∧ Hid (OwnI wr3 E (.slice A F.length c) F) ∧ Hid (j ≤ F.length)) (fun jj _ => F.length - (intOf jj).toNat)
          case atStart => exact ⟨0, rfl, S, T', O, Lib.hid (Nat.zero_le _)⟩
          case round =>
            clear S T' O hEs
            obtain ⟨j, rfl, S, T, O, hj⟩ := hrel
            by_cases hlt : j < F.length
            · have hj41 : j < 41 := by have := hF40.out; omega
              obtain ⟨b, off, e, hbl, hc⟩ := row_at1 O.out.row.1 hlt
              subst e
              have hz0 := hc j hlt
              obtain ⟨hh, hdr⟩ := fresh_drop hF.out hlt
              have hh2 := Lib.hid hh
              have hdr2 := Lib.hid hdr
              generalize F[j] = z at *
              clear hc hbl hh hdr
              go_wp2_with fail
              refine (drop_s T.out.s _).mono ?_
              rintro e w5 ⟨rfl, Q, Fr⟩
              rw [hdr2.out] at Q
              have hdd := hd.out
              have hEE := hE.out
              have S3 := Lib.hid (S.out.frb Fr (fun hh => hh.elim (fun e => by omega) (fun e => by omega)) (fun hh => hh.elim (fun e => by omega) (fun e => by omega)) (fun k hk hh => hh.elim (fun e => by have := T.out.lp; omega) (fun e => by have := T.out.lg; omega)))
              have O3 := Lib.hid (O.out.block (fun k hk => Fr.block k (O.out.lt k hk).2 (fun hh => by have := (O.out.lt k hk).1; exact hh.elim (fun e => by omega) (fun e => by omega))))
              have T3 := Lib.hid (T.out.put Q Fr)
              rw [hh2.out]
              clear Q Fr S T O hdd hEE hz0 hh2 hdr2
              go_wp2
              go_roundw
              case rel => exact ⟨j + 1, by go_num, S3, T3, O3, Lib.hid (by omega)⟩
              case measure => simp [intOf]; omega
            · have T2 := Lib.hid (show St2 w wr p' g' (ofS 200 (memI M)) by have := T.out; rwa [List.drop_of_length_le (by have := hj.out; omega), orI_nil] at this)
              generalize ofS 200 (memI M) = X at *
              clear T O hF hMl
              go_wp2_with fail
              refine (next_s S.out.s S.out.tab k).mono ?_
              rintro e w5 ⟨rfl, m1, rfl⟩
              have S1 := Lib.hid (S.out.drewN m1); have T1 := Lib.hid (T2.out.drewN m1)
              clear S T2 hlt hj
              generalize wr.drewN m1 = w5 at *
              go_wp2_with fail
              refine (next_s T1.out.s T1.out.tab k).mono ?_
              rintro e w6 ⟨rfl, m2, rfl⟩
              have S2 := Lib.hid (S1.out.drewN m2); have T2 := Lib.hid (T1.out.drewN m2)
              clear S1 T1
              generalize w5.drewN m2 = w6 at *
              go_wp2_with fail
              refine (gap_s S2.out.s S2.out.tab k).mono ?_
              rintro e w7 ⟨rfl, m3, rfl⟩
              have S3 := Lib.hid (S2.out.drewN m3); have T3 := Lib.hid (T2.out.drewN m3)
              clear S2 T2
              generalize w6.drewN m3 = w7 at *
              go_wp2_with fail
              refine (gap_s T3.out.s T3.out.tab k).mono ?_
              rintro e w8 ⟨rfl, m4, rfl⟩
              have S4 := Lib.hid (S3.out.drewN m4); have T4 := Lib.hid (T3.out.drewN m4)
              clear S3 T3
              generalize w7.drewN m4 = w8 at *
              generalize nextV X true k = a1 at *
              generalize nextO X true k = a2 at *
              generalize nextV X false k = a3 at *
              generalize nextO X false k = a4 at *
              go_wp2_with fail
              refine (count_s S4.out.s).mono ?_
              rintro e w9 ⟨rfl, rfl⟩
              go_wp2_with fail
              refine (count_s T4.out.s).mono ?_
              rintro e w9 ⟨rfl, rfl⟩
              go_wp2_with fail
              refine (has_s S4.out.s k).mono ?_
              rintro e w9 ⟨rfl, rfl⟩
              go_wp2_with fail
              refine (has_s T4.out.s k).mono ?_
              rintro e w9 ⟨rfl, rfl⟩
              go_wp2
              go_ret
              exact ⟨by simp, S4.out.b⟩
end Go.Proofs.YtkogkimncoaboaaDoor
