/- Queues: all things; a new one. -/
import Derived.Test.YthapdlgaccfbfaaQuD
namespace Go.Proofs.Ythapdlgaccfbfaa
open Go.RowKit
set_option linter.unusedVariables false
set_option linter.unusedSimpArgs false
set_option linter.unusedSectionVars false
set_option maxRecDepth 100000

set_option maxHeartbeats 8000000 in
theorem allQ_c {w : World} {q p L M t d mo : Nat} {T : List Th} (h : QS w q p L M t d mo T) :
    Calls Try.prog 18 #[.pointer (some ⟨q, 0, none⟩)] w fun e w' => ∃ v, e = .returned v ∧ OwnE thE w' w.heap.size v T ∧ Below w.heap.size w w' := by
  obtain ⟨R, h1, hR⟩ := h.ch
  have c0 := h.c0.1
  have hrow : natsI (rowI R 0) = T.map (fun x => (nodeN t x : Int)) := by unfold rowI natsI; rw [if_pos (by decide)]; simp [hR]
  have hlen := Lib.hid h.len
  replace h := Lib.hid h; replace h1 := Lib.hid h1; replace hrow := Lib.hid hrow
  clear hR
  go_enter Try.func18, Try.ntmps18
  go_wp2_with fail
  refine (all_i h1.out 0).mono ?_
  rintro e w1 ⟨v, rfl, O, B⟩
  rw [hrow.out] at O
  have H1 := Lib.hid (h.out.below B)
  have hB := Lib.hid B
  obtain ⟨A, c, rfl⟩ := O.slice
  rw [List.length_map] at *
  have HR := Lib.hid O.row.1
  have hE := Lib.hid B.size
  clear O B c0
  go_wp2_with fail
  go_loopw [3, 12] (fun v ii wr => ∃ i : Nat, ii = .int .i64 i ∧ Hid (OwnE thE wr w1.heap.size v (T.take i)) ∧ Hid (Below w1.heap.size w1 wr) ∧ Hid (i ≤ T.length)) (fun _ ii _ => T.length - (intOf ii).toNat)
  case atStart => exact ⟨0, rfl, Lib.hid (by rw [List.take_zero]; exact OwnE.nil _ _), Lib.hid (Below.refl _ _), Lib.hid (Nat.zero_le _)⟩
  case round =>
    obtain ⟨i, rfl, O, F, hi⟩ := hrel
    by_cases hlt : i < T.length
    · have hi4 : i < 4097 := by have := hlen.out; omega
      obtain ⟨b, off, rfl, hbl, hc⟩ := HR.out i (by rw [List.length_map]; exact hlt)
      have hz := (F.out.cell (p := ⟨b, off + i * 1 + 0, none⟩) hbl).trans (hc 0 _ rfl)
      rw [Nat.add_zero, Nat.mul_one, List.getElem_map] at hz
      have hxo := Lib.hid (H1.out.ok T[i] (List.getElem_mem hlt))
      have hts : T.take (i + 1) = T.take i ++ [T[i]] := by simp
      replace hts := Lib.hid hts
      obtain ⟨x, hx⟩ : ∃ x, x = T[i] := ⟨_, rfl⟩
      rw [← hx] at hz hxo hts
      have hth := Lib.hid (thOf_node hxo.out)
      have hnl := Lib.hid (node_lt hxo.out)
      have H2 := Lib.hid (H1.out.below F.out)
      have htl := Lib.hid (show (T.take i).length ≤ 100000 by simp; omega)
      clear hx hc hbl
      go_wp2_with fail
      refine (thing_c H2.out (nodeN t x) hnl.out).mono ?_
      rintro e w2 ⟨rfl, B⟩
      rw [hth.out]
      dsimp only [thV]
      have O2 := Lib.hid (O.out.below B)
      have F2 := Lib.hid (F.out.trans (B.mono F.out.size))
      have B3 := Below.alloc (Below.refl w2.heap.size w2) (Nat.le_refl _) (.cells #[.int .i64 x.1, .int .i64 x.2] 27)
      have F3 := Lib.hid (F2.out.trans (B3.mono F2.out.size))
      have Q2 := Lib.hid (rowAt_new1 (E := thE) (B := w2.heap.size) w2 #[.int .i64 x.1, .int .i64 x.2] 27 x rfl rfl)
      clear B B3 hz O F
      go_wp2_with (first | (at_builtin; refine append_rowE (E := thE) (ys := [x]) rfl rfl Try.underlying22 rfl (O2.out.alloc _) rfl Q2.out rfl (Nat.le_trans htl.out (by decide)) (by simp) F3.out.size ?_))
      intro v' w3 G1 G2 G3 G4
      have F4 := Lib.hid (F3.out.trans G2)
      have G := Lib.hid (show OwnE thE w3 w1.heap.size v' (T.take (i + 1)) by rw [hts.out]; exact G1)
      clear G1 G2 G3 G4 Q2 O2 F2 F3
      go_wp2
      go_roundw
      case rel => exact ⟨i + 1, by go_num, G, F4, Lib.hid (by omega)⟩
      case measure => simp [intOf]; omega
    · have O2 := Lib.hid (show OwnE thE wr w1.heap.size _ T by have := O.out; rwa [List.take_of_length_le (by omega)] at this)
      clear O
      go_wp2
      go_ret
      exact ⟨_, rfl, O2.out.mono hE.out, hB.out.trans (F.out.mono hE.out)⟩

def mx0 (a : Int) : Nat := (max a 0).toNat
set_option maxHeartbeats 8000000 in
theorem newQ_c (w : World) (a b m : Int) (t d mo : Nat) (ht : t = mx0 a) (hd : d = mx0 b) (hm : mo = mx0 m) (hb : t + d ≤ 4096) :
    Calls Try.prog 7 #[.int .i64 a, .int .i64 b, .int .i64 m] w fun e w' => ∃ q p L M, e = .returned (.pointer (some ⟨q, 0, none⟩)) ∧ QS w' q p L M t d mo [] ∧ w.heap.size ≤ q ∧ w.heap.size ≤ p ∧ w.heap.size ≤ L ∧ w.heap.size ≤ M ∧ Below w.heap.size w w' := by
  have e1 : (if a < 0 then 0 else a) = (t : Int) := by rw [ht]; unfold mx0; split <;> omega
  have e2 : (if b < 0 then 0 else b) = (d : Int) := by rw [hd]; unfold mx0; split <;> omega
  have e3 : (if m < 0 then 0 else m) = (mo : Int) := by rw [hm]; unfold mx0; split <;> omega
  have e4 : wrap64 ((t : Int) + d) = (t : Int) + d := by unfold wrap64; omega
  have hc1 : capI ((t : Int) + d) = ((t + d : Nat) : Int) := by unfold capI; omega
  replace hc1 := Lib.hid hc1; replace ht := Lib.hid ht; replace hd := Lib.hid hd; replace hm := Lib.hid hm
  go_enter Try.func7, Try.ntmps7
  go_wp2_with fail
  refine (new_i w _ 1 (t + d) 1 hc1.out rfl).mono ?_
  rintro e w1 ⟨p, L, M, rfl, K, bp, bL, bM, B⟩
  have hl := K.lt
  have hB := Below.alloc (Below.refl w1.heap.size w1) (Nat.le_refl _) (.cells #[.pointer (some ⟨p, 0, none⟩), .int .i64 t, .int .i64 d, .int .i64 mo, .int .i64 0] 51)
  have K2 := K.below hB (Nat.le_refl _)
  have c : ∀ j u, (#[.pointer (some ⟨p, 0, none⟩), .int .i64 t, .int .i64 d, .int .i64 mo, .int .i64 0] : Array Value)[j]? = some u → Cel (w1.alloc (.cells #[.pointer (some ⟨p, 0, none⟩), .int .i64 t, .int .i64 d, .int .i64 mo, .int .i64 0] 51)) w1.heap.size j u := fun j u hu => Cel.new w1 _ _ j u hu
  have S := Lib.hid (show QS (w1.alloc (.cells #[.pointer (some ⟨p, 0, none⟩), .int .i64 t, .int .i64 d, .int .i64 mo, .int .i64 0] 51)) w1.heap.size p L M t d mo [] from
    ⟨c 0 _ rfl, c 1 _ rfl, c 2 _ rfl, c 3 _ rfl, c 4 _ rfl, ⟨_, K2, rfl⟩, by omega, fun x hx => by simp at hx, List.nodup_nil, hb⟩)
  have B2 := Lib.hid (B.trans (hB.mono B.size))
  have hs := Lib.hid B.size
  have hbs := Lib.hid (And.intro bp (And.intro bL bM))
  clear K K2 hB c B bp bL bM hl
  go_wp2
  all_goals go_ret
  all_goals first
    | exact ⟨_, p, L, M, rfl, S.out, hs.out, hbs.out.1, hbs.out.2.1, hbs.out.2.2, B2.out⟩
    | exact ⟨_, rfl, p, L, M, S.out, hs.out, hbs.out.1, hbs.out.2.1, hbs.out.2.2, B2.out⟩
    | exact ⟨_, rfl, p, L, ⟨M, S.out⟩, hs.out, hbs.out.1, hbs.out.2.1, hbs.out.2.2, B2.out⟩
end Go.Proofs.Ythapdlgaccfbfaa
