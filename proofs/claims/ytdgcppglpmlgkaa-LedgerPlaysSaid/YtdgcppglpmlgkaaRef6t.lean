/- Contracts of the document's answer for ledgers: taking. -/
import Derived.Test.YtdgcppglpmlgkaaRef6
namespace Go.Proofs.Ytdgcppglpmlgkaa
open Go.RowKit
set_option linter.unusedVariables false
set_option linter.unusedSimpArgs false
set_option linter.unusedSectionVars false
set_option maxRecDepth 100000

set_option maxHeartbeats 8000000 in
theorem take6 {w : World} {base c : Nat} {A : Option Addr} {L : List (ByteArray × Int × Int)} (h : OwnE lnR w base (.slice A L.length c) L) (hl : L.length ≤ 100000) (hgd : Good L) (k : ByteArray) (n : Int) :
    Calls Try.prog 15 #[.slice A L.length c, .string k, .int .i64 n] w fun e w' => ∃ v', e = .returned (.tuple #[v', .bool (takeB L k n)]) ∧ OwnE lnR w' 0 v' (bTake L k n) ∧ NewE w (.slice A L.length c) v' ∧ Below w.heap.size w w' := by
  have H := Lib.hid h
  replace hgd := Lib.hid hgd
  clear h
  go_enter Try.func15, Try.ntmps15
  go_wp2_with fail
  refine (find6 H.out hl k).mono ?_
  rintro e w1 ⟨rfl, rfl⟩
  cases hf : fidx L k with
  | none =>
    rw [fI_none hf]
    have hb : takeB L k n = false := by unfold takeB; rw [(fidx_none hf).1]
    have hL : bTake L k n = L := by unfold bTake; rw [hb]; rfl
    replace hb := Lib.hid hb; replace hL := Lib.hid hL
    clear hf
    go_wp2
    go_quiet (fail)
    go_wp2
    go_ret2
    exact ⟨_, by rw [hb.out]; rfl, by rw [hL.out]; exact (H.out.mono (Nat.zero_le _)).drewN _, fun b hb => .inl hb, belowDrew (Below.refl _ _) _⟩
  | some i =>
    rw [fI_some hf]
    obtain ⟨hi, hki, hgi⟩ := fidx_some hf
    obtain ⟨g, c', e, _, hgs, _⟩ := H.out.pos (by omega)
    injection e with e1 e2 e3
    subst e1; subst e3
    obtain ⟨-, ⟨hy1, -⟩, ⟨hy2, -⟩⟩ := H.out.at3 hi
    have hg2 := hgd.out L[i] (List.getElem_mem hi)
    have hu : usedV L k = L[i].2.2 := by unfold usedV; rw [hgi]
    have hlm : limV L k = L[i].2.1 := by unfold limV; rw [hgi]
    have hi5 : decide ((i : Int) < 0) = false := by simp
    have hl5 := Lib.hid hl
    obtain ⟨a, ha⟩ : ∃ a, a = L[i].2.1 := ⟨_, rfl⟩
    obtain ⟨b, hb⟩ : ∃ b, b = L[i].2.2 := ⟨_, rfl⟩
    rw [← ha] at hy1 hlm
    rw [← hb] at hy2 hu
    have hbT : takeB L k n = (decide (0 ≤ n) && decide (n ≤ a - b)) := by unfold takeB; rw [hgi, ha, hb]
    have hgd2 : 0 ≤ a ∧ a < 9223372036854775808 ∧ 0 ≤ b ∧ b < 9223372036854775808 := by rw [ha, hb]; exact hg2
    have hset : bset L k (a, b + n) = L.set i (k, a, b + n) := bset_some hf
    have hw : wrap64 (a - b) = a - b := by unfold wrap64; omega
    clear hgi hki hf hg2 ha hb hl e2
    by_cases hT : 0 ≤ n ∧ n ≤ a - b
    · have hbT2 : takeB L k n = true := by rw [hbT]; simp; omega
      have hL : bTake L k n = L.set i (k, a, b + n) := by unfold bTake; rw [hbT2, hlm, hu, ← hset]; rfl
      have hw2 : wrap64 (b + n) = b + n := by unfold wrap64; omega
      have t1 : decide (n < 0) = false := by simp; omega
      have t3 : decide (a < b) = false := by simp; omega
      have t2 : decide (a - b < n) = false := by simp; omega
      have hglt : g < w.heap.size := hgs
      have key : Hid (∀ X, Below w.heap.size w X → HitR w g i a b X) := Lib.hid fun X hX => ⟨(hX.cell (p := ⟨g, i * 3 + 1, none⟩) hglt).trans hy1, (hX.cell (p := ⟨g, i * 3 + 2, none⟩) hglt).trans hy2⟩
      have hL2 : bTake L k n = L.set i (k, a, IntKind.i64.wrap (b + n)) := by rw [show IntKind.i64.wrap (b + n) = b + n by rw [IntKind.wrap_i64]; omega]; exact hL
      replace hbT2 := Lib.hid hbT2; replace hL := Lib.hid hL; replace hL2 := Lib.hid hL2
      have HZ := Lib.hid (Below.refl w.heap.size w)
      clear hset hbT hlm hu hgd2 hT hgs hglt
      go_wp2
      go_quiet (fail)
      clear hy1 hy2
      generalize hwd : w.drewN nq = wd at *
      have HZd := Lib.hid (show Below w.heap.size w wd by rw [← hwd]; exact belowDrew (Below.refl _ _) _)
      have Hd := Lib.hid (show OwnE lnR wd base (.slice (some ⟨g, 0, none⟩) L.length c) L by rw [← hwd]; exact H.out.drewN _)
      have hsz : Hid (w.heap.size = wd.heap.size) := Lib.hid (by rw [← hwd]; rfl)
      clear hwd
      go_wp2_with fail
      go_region_held3 (fun w' => w'.cell? ⟨g, i * 3 + 1, none⟩ = some (.int .i64 a) ∧ w'.cell? ⟨g, i * 3 + 2, none⟩ = some (.int .i64 b)) (first | exact key.out _ HZd.out | exact key.out _ (belowDrew HZd.out 1) | exact key.out _ HX2) (first
        | (go_at_call 47; refine (with6 (Hd.out.drewN 1) hl5.out hi k a _).mono ?_; rintro e w2 ⟨v2, rfl, P, F⟩; have HX2 : Below w.heap.size w w2 := (belowDrew HZd.out 1).trans (F.mono (by rw [hsz.out]; exact Nat.le_refl _)))
        | fail)
      all_goals
        replace HX2 := Lib.hid HX2; replace P := Lib.hid P
        clear F
        go_wp2
      all_goals go_ret2
      all_goals exact ⟨_, by rw [hbT2.out]; rfl, by first | (rw [hL.out]; exact P.out.mono (Nat.zero_le _)) | (rw [hL2.out]; exact P.out.mono (Nat.zero_le _)), fun q hq => .inr (by have := (P.out.lt q hq).1; rw [hsz.out]; exact this), HX2.out⟩
    · have hbT2 : takeB L k n = false := by rw [hbT]; simp; omega
      have hL : bTake L k n = L := by unfold bTake; rw [hbT2]; rfl
      have hT2 : n < 0 ∨ a - b < n := by omega
      replace hbT2 := Lib.hid hbT2; replace hL := Lib.hid hL
      clear hset hbT hlm hu hT hgs
      by_cases t1 : n < 0
      · have t1b : decide (n < 0) = true := by simp; omega
        clear hT2 hgd2 t1
        go_wp2
        go_quiet (fail)
        go_wp2
        all_goals go_ret2
        all_goals exact ⟨_, by rw [hbT2.out]; rfl, by rw [hL.out]; exact (H.out.mono (Nat.zero_le _)).drewN _, fun b hb => .inl hb, belowDrew (Below.refl _ _) _⟩
      · have t2 : decide (a - b < n) = true := by simp; omega
        have t1b : decide (n < 0) = false := by simp; omega
        clear t1 hT2
        by_cases t3 : a < b
        · have t3b : decide (a < b) = true := by simp; omega
          clear t3 hgd2
          go_wp2
          go_quiet (fail)
          go_wp2
          all_goals go_ret2
          all_goals exact ⟨_, by rw [hbT2.out]; rfl, by rw [hL.out]; exact (H.out.mono (Nat.zero_le _)).drewN _, fun b hb => .inl hb, belowDrew (Below.refl _ _) _⟩
        · have t3b : decide (a < b) = false := by simp; omega
          clear t3 hgd2
          go_wp2
          go_quiet (fail)
          go_wp2
          all_goals go_ret2
          all_goals exact ⟨_, by rw [hbT2.out]; rfl, by rw [hL.out]; exact (H.out.mono (Nat.zero_le _)).drewN _, fun b hb => .inl hb, belowDrew (Below.refl _ _) _⟩
end Go.Proofs.Ytdgcppglpmlgkaa
