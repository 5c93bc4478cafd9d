/- Contracts of the document's answer for ledgers: giving back, and limits. -/
import Derived.Test.YtdgcppglpmlgkaaRef6t
namespace Go.Proofs.Ytdgcppglpmlgkaa
open Go.RowKit
set_option linter.unusedVariables false
set_option linter.unusedSimpArgs false
set_option linter.unusedSectionVars false
set_option maxRecDepth 100000

set_option maxHeartbeats 8000000 in
theorem give6 {w : World} {base c : Nat} {A : Option Addr} {L : List (ByteArray × Int × Int)} (h : OwnE lnR w base (.slice A L.length c) L) (hl : L.length ≤ 100000) (hgd : Good L) (k : ByteArray) (n : Int) :
    Calls Try.prog 17 #[.slice A L.length c, .string k, .int .i64 n] w fun e w' => ∃ v', e = .returned (.tuple #[v', .bool (giveB L k n)]) ∧ OwnE lnR w' 0 v' (bGive L k n) ∧ NewE w (.slice A L.length c) v' ∧ Below w.heap.size w w' := by
  have H := Lib.hid h
  replace hgd := Lib.hid hgd
  clear h
  go_enter Try.func17, Try.ntmps17
  go_wp2_with fail
  refine (find6 H.out hl k).mono ?_
  rintro e w1 ⟨rfl, rfl⟩
  cases hf : fidx L k with
  | none =>
    rw [fI_none hf]
    have hb : giveB L k n = false := by unfold giveB; rw [(fidx_none hf).1]
    have hL : bGive L k n = L := by unfold bGive; rw [hb]; rfl
    replace hb := Lib.hid hb; replace hL := Lib.hid hL
    clear hf
    go_wp2
    go_ret2
    exact ⟨_, by rw [hb.out]; rfl, by rw [hL.out]; exact H.out.mono (Nat.zero_le _), fun b hb => .inl hb, Below.refl _ _⟩
  | some i =>
    rw [fI_some hf]
    obtain ⟨hi, hki, hgi⟩ := fidx_some hf
    obtain ⟨g, c', e, _, hgs, _⟩ := H.out.pos (by omega)
    injection e with e1 e2 e3
    subst e1; subst e3
    obtain ⟨-, ⟨hy1, -⟩, ⟨hy2, -⟩⟩ := H.out.at3 hi
    have hg2 := hgd.out L[i] (List.getElem_mem hi)
    have hu : usedV L k = L[i].2.2 := by unfold usedV; rw [hgi]
    have hlm : limV L k = L[i].2.1 := by unfold limV; rw [hgi]
    have hi5 : decide ((i : Int) < 0) = false := by simp
    have hl5 := Lib.hid hl
    obtain ⟨a, ha⟩ : ∃ a, a = L[i].2.1 := ⟨_, rfl⟩
    obtain ⟨b, hb⟩ : ∃ b, b = L[i].2.2 := ⟨_, rfl⟩
    rw [← ha] at hy1 hlm
    rw [← hb] at hy2 hu
    have hbT : giveB L k n = (decide (0 ≤ n) && decide (n ≤ b)) := by unfold giveB; rw [hgi, hb]
    have hgd2 : 0 ≤ a ∧ a < 9223372036854775808 ∧ 0 ≤ b ∧ b < 9223372036854775808 := by rw [ha, hb]; exact hg2
    have hset : bset L k (a, b - n) = L.set i (k, a, b - n) := bset_some hf
    clear hgi hki hf hg2 ha hb hl e2
    by_cases hT : 0 ≤ n ∧ n ≤ b
    · have hbT2 : giveB L k n = true := by rw [hbT]; simp; omega
      have hL : bGive L k n = L.set i (k, a, b - n) := by unfold bGive; rw [hbT2, hlm, hu, ← hset]; rfl
      have hw2 : wrap64 (b - n) = b - n := by unfold wrap64; omega
      have t1 : decide (n < 0) = false := by simp; omega
      have t2 : decide (b < n) = false := by simp; omega
      have hglt : g < w.heap.size := hgs
      have key : Hid (∀ X, Below w.heap.size w X → HitR w g i a b X) := Lib.hid fun X hX => ⟨(hX.cell (p := ⟨g, i * 3 + 1, none⟩) hglt).trans hy1, (hX.cell (p := ⟨g, i * 3 + 2, none⟩) hglt).trans hy2⟩
      have hL2 : bGive L k n = L.set i (k, a, IntKind.i64.wrap (b - n)) := by rw [show IntKind.i64.wrap (b - n) = b - n by rw [IntKind.wrap_i64]; omega]; exact hL
      replace hbT2 := Lib.hid hbT2; replace hL := Lib.hid hL; replace hL2 := Lib.hid hL2
      have HZd := Lib.hid (Below.refl w.heap.size w)
      have Hd := H
      clear hset hbT hlm hu hgd2 hT hgs hglt
      go_wp2_with fail
      go_region_held3 (fun w' => w'.cell? ⟨g, i * 3 + 1, none⟩ = some (.int .i64 a) ∧ w'.cell? ⟨g, i * 3 + 2, none⟩ = some (.int .i64 b)) (first | exact key.out _ HZd.out | exact key.out _ (belowDrew HZd.out 1) | exact key.out _ HX2) (first
        | (go_at_call 47; refine (with6 (Hd.out.drewN 1) hl5.out hi k a _).mono ?_; rintro e w2 ⟨v2, rfl, P, F⟩; have HX2 : Below w.heap.size w w2 := (belowDrew HZd.out 1).trans F)
        | fail)
      all_goals
        replace HX2 := Lib.hid HX2; replace P := Lib.hid P
        clear F
        go_wp2
      all_goals go_ret2
      all_goals exact ⟨_, by rw [hbT2.out]; rfl, by first | (rw [hL.out]; exact P.out.mono (Nat.zero_le _)) | (rw [hL2.out]; exact P.out.mono (Nat.zero_le _)), fun q hq => .inr (P.out.lt q hq).1, HX2.out⟩
    · have hbT2 : giveB L k n = false := by rw [hbT]; simp; omega
      have hL : bGive L k n = L := by unfold bGive; rw [hbT2]; rfl
      have hT2 : n < 0 ∨ b < n := by omega
      replace hbT2 := Lib.hid hbT2; replace hL := Lib.hid hL
      clear hset hbT hlm hu hT hgs
      by_cases t1 : n < 0
      · have t1b : decide (n < 0) = true := by simp; omega
        clear hT2 hgd2 t1
        go_wp2
        go_ret2
        exact ⟨_, by rw [hbT2.out]; rfl, by rw [hL.out]; exact H.out.mono (Nat.zero_le _), fun b hb => .inl hb, Below.refl _ _⟩
      · have t2 : decide (b < n) = true := by simp; omega
        have t1b : decide (n < 0) = false := by simp; omega
        clear t1 hT2 hgd2
        go_wp2
        go_ret2
        exact ⟨_, by rw [hbT2.out]; rfl, by rw [hL.out]; exact H.out.mono (Nat.zero_le _), fun b hb => .inl hb, Below.refl _ _⟩

set_option maxHeartbeats 8000000 in
theorem limit6 {w : World} {base c : Nat} {A : Option Addr} {L : List (ByteArray × Int × Int)} (h : OwnE lnR w base (.slice A L.length c) L) (hl : L.length ≤ 100000) (k : ByteArray) (n : Int) :
    Calls Try.prog 14 #[.slice A L.length c, .string k, .int .i64 n] w fun e w' => ∃ v', e = .returned v' ∧ OwnE lnR w' w.heap.size v' (bLimit L k n) ∧ Below w.heap.size w w' := by
  have H := Lib.hid h
  obtain ⟨mx, hmx⟩ : ∃ mx, mx = max n 0 := ⟨_, rfl⟩
  have hL : bLimit L k n = bset L k (mx, usedV L k) := by rw [hmx]; rfl
  have hm2 : (0 ≤ n ∧ mx = n) ∨ (n < 0 ∧ mx = 0) := by omega
  rw [hL]
  replace hmx := Lib.hid hmx
  clear hL h
  rcases hm2 with ⟨hn0, rfl⟩ | ⟨hn0, rfl⟩
  · have d1 : decide (mx < 0) = false := by simp; omega
    clear hn0
    go_enter Try.func14, Try.ntmps14
    go_wp2_with fail
    refine (find6 H.out hl k).mono ?_
    rintro e w1 ⟨rfl, rfl⟩
    replace hl := Lib.hid hl
    cases hf : fidx L k with
    | none =>
      rw [fI_none hf]
      have hu : usedV L k = 0 := by unfold usedV; rw [(fidx_none hf).1]
      have hres : bset L k (mx, usedV L k) = L ++ [(k, mx, (0 : Int))] := by rw [hu, bset_none hf]
      replace hres := Lib.hid hres
      clear hf hu
      have E0 := Lib.hid (emptyE w w.heap.size (Nat.le_refl _))
      have HR := Lib.hid (H.out.alloc (.cells #[] 83)).row.1
      have HB := Lib.hid (Below.alloc (Below.refl w.heap.size w) (Nat.le_refl _) (.cells #[] 83))
      go_wp2_with (first | (at_builtin; refine append_rowE (E := lnR) (ys := L) (xs := []) rfl rfl Try.underlying27 rfl E0.out rfl HR.out rfl (by simp) (by have := hl.out; omega) (by simp) ?_))
      intro v' w1 G1 G2 G3 G4
      replace G1 : OwnE lnR w1 w.heap.size v' L := G1
      have HB1 := Lib.hid (HB.out.trans G2)
      obtain ⟨A1, c1, rfl, _⟩ := G1.slice
      have P := Lib.hid (G1.alloc (.cells #[.string k, .int .i64 mx, .int .i64 0] 83))
      have Q := Lib.hid (rowAt_new1 (E := lnR) (B := w1.heap.size) w1 #[.string k, .int .i64 mx, .int .i64 0] 83 (k, mx, (0 : Int)) rfl rfl)
      have HB2 := Lib.hid (Below.alloc HB1.out HB1.out.size (.cells #[.string k, .int .i64 mx, .int .i64 0] 83))
      clear G1 G2 G3 G4 HB HB1 E0 HR
      go_wp2_with (first | (at_builtin; refine append_rowE (E := lnR) (ys := [(k, mx, (0 : Int))]) (xs := L) rfl rfl Try.underlying27 rfl P.out rfl Q.out rfl (Nat.le_trans hl.out (by decide)) (by simp) (Nat.le_trans HB2.out.size (Nat.le_refl _)) ?_))
      intro v2 w2 G1 G2 G3 G4
      have HB3 := Lib.hid (HB2.out.trans G2)
      replace G1 := Lib.hid G1
      clear G2 G3 G4 P Q HB2
      go_wp2
      go_ret
      exact ⟨_, rfl, by rw [hres.out]; exact G1.out, HB3.out⟩
    | some i =>
      rw [fI_some hf]
      obtain ⟨hi, hki, hgi⟩ := fidx_some hf
      obtain ⟨g, c', e, _, hgs, _⟩ := H.out.pos (by omega)
      injection e with e1 e2 e3
      subst e1; subst e3
      obtain ⟨-, -, ⟨hy2, -⟩⟩ := H.out.at3 hi
      have hu : usedV L k = L[i].2.2 := by unfold usedV; rw [hgi]
      obtain ⟨u, hu0⟩ : ∃ u, u = usedV L k := ⟨_, rfl⟩
      have hset : bset L k (mx, usedV L k) = L.set i (k, mx, u) := by rw [hu0]; exact bset_some hf
      replace hset := Lib.hid hset
      have hi5 : decide ((i : Int) < 0) = false := by simp
      rw [← hu, ← hu0] at hy2
      have hglt : g < w.heap.size := hgs
      clear hgi hki hf hgs e2 hu hu0
      go_wp2_with fail
      refine (with6 H.out hl.out hi k mx u).mono ?_
      rintro e w2 ⟨v2, rfl, P, F⟩
      replace F := Lib.hid F; replace P := Lib.hid P
      go_wp2
      go_ret
      exact ⟨_, rfl, by rw [hset.out]; exact P.out, F.out⟩
  · have d1 : decide (n < 0) = true := by simp; omega
    clear hn0
    go_enter Try.func14, Try.ntmps14
    go_wp2_with fail
    refine (find6 H.out hl k).mono ?_
    rintro e w1 ⟨rfl, rfl⟩
    replace hl := Lib.hid hl
    cases hf : fidx L k with
    | none =>
      rw [fI_none hf]
      have hu : usedV L k = 0 := by unfold usedV; rw [(fidx_none hf).1]
      have hres : bset L k ((0 : Int), usedV L k) = L ++ [(k, (0 : Int), (0 : Int))] := by rw [hu, bset_none hf]
      replace hres := Lib.hid hres
      clear hf hu
      have E0 := Lib.hid (emptyE w w.heap.size (Nat.le_refl _))
      have HR := Lib.hid (H.out.alloc (.cells #[] 83)).row.1
      have HB := Lib.hid (Below.alloc (Below.refl w.heap.size w) (Nat.le_refl _) (.cells #[] 83))
      go_wp2_with (first | (at_builtin; refine append_rowE (E := lnR) (ys := L) (xs := []) rfl rfl Try.underlying27 rfl E0.out rfl HR.out rfl (by simp) (by have := hl.out; omega) (by simp) ?_))
      intro v' w1 G1 G2 G3 G4
      replace G1 : OwnE lnR w1 w.heap.size v' L := G1
      have HB1 := Lib.hid (HB.out.trans G2)
      obtain ⟨A1, c1, rfl, _⟩ := G1.slice
      have P := Lib.hid (G1.alloc (.cells #[.string k, .int .i64 ((0 : Int)), .int .i64 0] 83))
      have Q := Lib.hid (rowAt_new1 (E := lnR) (B := w1.heap.size) w1 #[.string k, .int .i64 ((0 : Int)), .int .i64 0] 83 (k, (0 : Int), (0 : Int)) rfl rfl)
      have HB2 := Lib.hid (Below.alloc HB1.out HB1.out.size (.cells #[.string k, .int .i64 ((0 : Int)), .int .i64 0] 83))
      clear G1 G2 G3 G4 HB HB1 E0 HR
      go_wp2_with (first | (at_builtin; refine append_rowE (E := lnR) (ys := [(k, (0 : Int), (0 : Int))]) (xs := L) rfl rfl Try.underlying27 rfl P.out rfl Q.out rfl (Nat.le_trans hl.out (by decide)) (by simp) (Nat.le_trans HB2.out.size (Nat.le_refl _)) ?_))
      intro v2 w2 G1 G2 G3 G4
      have HB3 := Lib.hid (HB2.out.trans G2)
      replace G1 := Lib.hid G1
      clear G2 G3 G4 P Q HB2
      go_wp2
      go_ret
      exact ⟨_, rfl, by rw [hres.out]; exact G1.out, HB3.out⟩
    | some i =>
      rw [fI_some hf]
      obtain ⟨hi, hki, hgi⟩ := fidx_some hf
      obtain ⟨g, c', e, _, hgs, _⟩ := H.out.pos (by omega)
      injection e with e1 e2 e3
      subst e1; subst e3
      obtain ⟨-, -, ⟨hy2, -⟩⟩ := H.out.at3 hi
      have hu : usedV L k = L[i].2.2 := by unfold usedV; rw [hgi]
      obtain ⟨u, hu0⟩ : ∃ u, u = usedV L k := ⟨_, rfl⟩
      have hset : bset L k ((0 : Int), usedV L k) = L.set i (k, (0 : Int), u) := by rw [hu0]; exact bset_some hf
      replace hset := Lib.hid hset
      have hi5 : decide ((i : Int) < 0) = false := by simp
      rw [← hu, ← hu0] at hy2
      have hglt : g < w.heap.size := hgs
      clear hgi hki hf hgs e2 hu hu0
      go_wp2_with fail
      refine (with6 H.out hl.out hi k ((0 : Int)) u).mono ?_
      rintro e w2 ⟨v2, rfl, P, F⟩
      replace F := Lib.hid F; replace P := Lib.hid P
      go_wp2
      go_ret
      exact ⟨_, rfl, by rw [hset.out]; exact P.out, F.out⟩
end Go.Proofs.Ytdgcppglpmlgkaa
