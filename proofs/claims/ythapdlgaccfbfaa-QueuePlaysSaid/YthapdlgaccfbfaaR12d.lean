/- The document's answer for queues: taking out. -/
import Derived.Test.YthapdlgaccfbfaaR12p
namespace Go.Proofs.Ythapdlgaccfbfaa
open Go.RowKit
set_option linter.unusedVariables false
set_option linter.unusedSimpArgs false
set_option linter.unusedSectionVars false
set_option maxRecDepth 100000

def dropT (T : List Th) (x : Th) : List Th := T.filter (fun y => !decide (y = x))
theorem dropT_no {T : List Th} {x : Th} (h : x ∉ T) : dropT T x = T := by
  unfold dropT
  rw [List.filter_eq_self]
  intro y hy
  have : y ≠ x := fun e => h (e ▸ hy)
  simp [this]
theorem dropT_erase {T : List Th} {x : Th} (h : T.Nodup) : dropT T x = T.erase x := by
  unfold dropT
  rw [h.erase_eq_filter]
  congr 1
  funext y
  by_cases e : y = x <;> simp [e]
theorem dropT_snoc (T : List Th) (x y : Th) : dropT (T ++ [y]) x = dropT T x ++ (if y = x then [] else [y]) := by
  unfold dropT
  rw [List.filter_append]
  by_cases e : y = x <;> simp [e]

set_option maxHeartbeats 8000000 in
theorem rdropQ_c {w : World} {base c t d mo : Nat} {A : Option Addr} {T : List Th} (h : OwnE trE w base (.slice A T.length c) T) (hl : T.length ≤ 4096) (x : Th) :
    Calls Try.prog 13 #[quV t d mo (.slice A T.length c), thV x] w fun e w' => ∃ v', e = .returned (.tuple #[quV t d mo v', .bool (decide (x ∈ T))]) ∧ OwnE trE w' 0 v' (dropT T x) ∧ (∀ b, v'.ownBlock = some b → (Value.slice A T.length c).ownBlock = some b ∨ w.heap.size ≤ b) ∧ Below w.heap.size w w' := by
  have B1 := Below.alloc (Below.refl w.heap.size w) (Nat.le_refl _) (quC t d mo (.slice A T.length c))
  have B2 := Below.alloc B1 B1.size (.cells #[.int .i64 x.1, .int .i64 x.2] 41)
  have B3 := Lib.hid (Below.alloc B2 B2.size (quC 0 0 0 (.slice none 0 0)))
  have O := Lib.hid (((h.alloc (quC t d mo (.slice A T.length c))).alloc (.cells #[.int .i64 x.1, .int .i64 x.2] 41)).alloc (quC 0 0 0 (.slice none 0 0)))
  have hlow : Hid (∀ b, (Value.slice A T.length c).ownBlock = some b → b < w.heap.size) := Lib.hid fun b hb => (h.lt b hb).2
  clear h B1 B2
  go_enter Try.func13, Try.ntmps13
  go_upto_region 1 with fail
  have c0 := ((Cel.new w #[.int .i64 t, .int .i64 d, .int .i64 mo, .slice A T.length c] 36 0 (.int .i64 t) rfl).alloc (.cells #[.int .i64 x.1, .int .i64 x.2] 41)).alloc (quC 0 0 0 (.slice none 0 0))
  have c1 := ((Cel.new w #[.int .i64 t, .int .i64 d, .int .i64 mo, .slice A T.length c] 36 1 (.int .i64 d) rfl).alloc (.cells #[.int .i64 x.1, .int .i64 x.2] 41)).alloc (quC 0 0 0 (.slice none 0 0))
  have c2 := ((Cel.new w #[.int .i64 t, .int .i64 d, .int .i64 mo, .slice A T.length c] 36 2 (.int .i64 mo) rfl).alloc (.cells #[.int .i64 x.1, .int .i64 x.2] 41)).alloc (quC 0 0 0 (.slice none 0 0))
  have c3 := ((Cel.new w #[.int .i64 t, .int .i64 d, .int .i64 mo, .slice A T.length c] 36 3 (.slice A T.length c) rfl).alloc (.cells #[.int .i64 x.1, .int .i64 x.2] 41)).alloc (quC 0 0 0 (.slice none 0 0))
  have y0 := (Cel.new (w.alloc (quC t d mo (.slice A T.length c))) #[.int .i64 x.1, .int .i64 x.2] 41 0 (.int .i64 x.1) rfl).alloc (quC 0 0 0 (.slice none 0 0))
  have y1 := (Cel.new (w.alloc (quC t d mo (.slice A T.length c))) #[.int .i64 x.1, .int .i64 x.2] 41 1 (.int .i64 x.2) rfl).alloc (quC 0 0 0 (.slice none 0 0))
  rw [show (w.alloc (quC t d mo (.slice A T.length c))).heap.size = w.heap.size + 1 by simp] at y0 y1
  have v := fun j u hu => Cel.new ((w.alloc (quC t d mo (.slice A T.length c))).alloc (.cells #[.int .i64 x.1, .int .i64 x.2] 41)) #[.int .i64 0, .int .i64 0, .int .i64 0, .slice none 0 0] 36 j u hu
  rw [show ((w.alloc (quC t d mo (.slice A T.length c))).alloc (.cells #[.int .i64 x.1, .int .i64 x.2] 41)).heap.size = w.heap.size + 1 + 1 by simp] at v
  have hsz : (((w.alloc (quC t d mo (.slice A T.length c))).alloc (.cells #[.int .i64 x.1, .int .i64 x.2] 41)).alloc (quC 0 0 0 (.slice none 0 0))).heap.size = w.heap.size + 3 := by simp
  replace c0 := Lib.hid c0; replace c1 := Lib.hid c1; replace c2 := Lib.hid c2; replace c3 := Lib.hid c3; replace y0 := Lib.hid y0; replace y1 := Lib.hid y1
  have v0 := Lib.hid (v 0 _ rfl); have v1 := Lib.hid (v 1 _ rfl); have v2r := Lib.hid (v 2 _ rfl); have v3r := Lib.hid (v 3 _ rfl)
  replace hsz := Lib.hid hsz
  clear v
  generalize ((w.alloc (.cells #[.int .i64 t, .int .i64 d, .int .i64 mo, .slice A T.length c] 36)).alloc (.cells #[.int .i64 x.1, .int .i64 x.2] 41)).alloc (.cells #[.int .i64 0, .int .i64 0, .int .i64 0, .slice none 0 0] 36) = W at *
  have k0 := c0.out.1; have k1 := c1.out.1; have k2 := c2.out.1; have k3 := c3.out.1; have k4 := y0.out.1; have k5 := y1.out.1
  by_cases hin : x ∈ T
  · have hd := decide_eq_true hin
    clear hin
    go_upto_region 3 with (first | (go_at_call 26; with_reducible refine (rhasQ_c O.out hl x).mono ?_; rintro e w1 ⟨rfl, F1⟩; rw [hd]; replace F1 := Lib.hid F1) | fail)
    replace F1 := F1.out
    have hX := Lib.hid (F1)
    have hdH := Lib.hid hd
    have E0 := Lib.hid (show OwnE trE (w1.alloc (.cells #[] 41)) w1.heap.size (.slice (some ⟨w1.heap.size, 0, none⟩) 0 0) [] from OwnE.lit (E := trE) w1 w1.heap.size (Nat.le_refl _) [] #[] rfl (by simp))
    have hT9 : Hid (T.length ≤ 4096) := Lib.hid hl
    clear hd F1 k0 k1 k2 k3 k4 k5
    go_upto_region 5 with fail
    have hBw : Hid (Below W.heap.size W (w1.alloc (.cells #[] 41))) := Lib.hid (blA hX.out _)
    have E1 := Lib.hid (E0.out.mono hX.out.size)
    clear E0 hX
    generalize w1.alloc (.cells #[] 41) = w2 at *
    go_loopw [6, 7] (fun ov ii wr => ∃ (i : Nat), ii = .int .i64 i ∧ Hid (OwnE trE wr W.heap.size ov (dropT (T.take i) x)) ∧ Hid (i ≤ T.length) ∧ Hid (Below W.heap.size W wr)) (fun _ ii _ => T.length - (intOf ii).toNat)
    case atStart => exact ⟨0, rfl, Lib.hid (by simpa [dropT] using E1.out), Lib.hid (Nat.zero_le _), hBw⟩
    case round =>
      obtain ⟨i, rfl, hO, hi, hB⟩ := hrel
      have r3 := (c3.out.low hB.out c3.out.lt).1
      have j0 := (y0.out.low hB.out y0.out.lt).1
      have j1 := (y1.out.low hB.out y1.out.lt).1
      have O2 := Lib.hid (O.out.below hB.out)
      have i4 : i ≤ 4096 := by have := hi.out; have := hT9.out; omega
      by_cases hlt : i < T.length
      · obtain ⟨g, c', e, _, hgs, _⟩ := O2.out.pos (by omega)
        injection e with e1 e2 e3
        subst e1; subst e3
        obtain ⟨⟨u0, -⟩, ⟨u1, -⟩⟩ := O2.out.atR hlt
        have hts : dropT (T.take (i + 1)) x = dropT (T.take i) x ++ (if T[i] = x then [] else [T[i]]) := by rw [List.take_succ_eq_append_getElem hlt]; exact dropT_snoc _ _ _
        have hdl : (dropT (T.take i) x).length ≤ 4096 := by
          have h1 := List.length_filter_le (fun y => !decide (y = x)) (T.take i)
          rw [List.length_take] at h1
          unfold dropT; omega
        generalize T[i] = y at *
        clear e2
        have hBd := Lib.hid (fun n => blN hB.out n)
        by_cases hyx : y = x
        · have heq := eqTrT hyx
          rw [if_pos hyx, List.append_nil] at hts
          replace hyx := Lib.hid hyx
          replace hts := Lib.hid hts
          replace hdl := Lib.hid hdl
          go_wp2
          go_quiet (fail)
          go_wp2
          go_roundw
          case rel => exact ⟨i + 1, by go_num, Lib.hid (by rw [hts.out]; exact hO.out.drewN _), Lib.hid (by omega), Lib.hid (hBd.out _)⟩
          case measure => simp [intOf]; omega
        · have heq := eqTrF hyx
          rw [if_neg hyx] at hts
          replace hyx := Lib.hid hyx
          replace hts := Lib.hid hts
          replace hdl := Lib.hid hdl
          go_wp2
          go_quiet (fail)
          have O3 := Lib.hid (hO.out.drewN nq)
          have B5 := Lib.hid (hBd.out nq)
          have r3 : (wr.drewN nq).cell? ⟨w.heap.size, 3, none⟩ = _ := r3
          have u0 : (wr.drewN nq).cell? ⟨g, i * 2, none⟩ = _ := u0
          have u1 : (wr.drewN nq).cell? ⟨g, i * 2 + 1, none⟩ = _ := u1
          clear hO hB hBd
          generalize wr.drewN nq = wd at *
          go_wp2_with (first | (at_builtin; refine append_rowE (E := trE) (ys := [y]) rfl rfl Try.underlying34 rfl (O3.out.alloc _) rfl (rowAt_new1 _ _ _ y rfl rfl) rfl (Nat.le_trans hdl.out (by decide)) (by simp) (blA B5.out _).size ?_) | fail)
          intro v' w5 G1 G2 G3 G4
          rw [← hts.out] at G1
          have B6 := Lib.hid ((blA B5.out (.cells #[.int .i64 y.1, .int .i64 y.2] 41)).trans G2)
          replace G1 := Lib.hid G1
          clear G2 G3 G4 O3 B5 r3 u0 u1 j0 j1
          go_wp2
          go_roundw
          case rel => exact ⟨i + 1, by go_num, G1, Lib.hid (by omega), B6⟩
          case measure => simp [intOf]; omega
      · have ho := hO.out
        rw [List.take_of_length_le (by omega)] at ho
        obtain ⟨A5, c5, rfl, -⟩ := ho.slice
        obtain ⟨n5, hn5⟩ : ∃ n5, n5 = (dropT T x).length := ⟨_, rfl⟩
        rw [← hn5] at ho ⊢
        have O9 := Lib.hid ho
        have C3 := c3.out.low hB.out c3.out.lt
        have s4 := C3.2
        have t0 := (c0.out.low hB.out c0.out.lt).1; have t1 := (c1.out.low hB.out c1.out.lt).1; have t2 := (c2.out.low hB.out c2.out.lt).1
        obtain ⟨g0, g1⟩ := v0.out.low hB.out v0.out.lt
        obtain ⟨g2, g3⟩ := v1.out.low hB.out v1.out.lt
        obtain ⟨g4, g5⟩ := v2r.out.low hB.out v2r.out.lt
        obtain ⟨g6, g7⟩ := v3r.out.low hB.out v3r.out.lt
        have hW3 := hsz.out
        have z4 : w.heap.size + 1 + 1 < wr.heap.size := by have := hB.out.size; omega
        have z2 : w.heap.size + 1 < wr.heap.size := by omega
        have z3 : w.heap.size < wr.heap.size := by omega
        have hW3' := Lib.hid hW3
        replace hn5 := Lib.hid hn5
        clear ho hO C3 hW3 j0 j1 i4
        go_wp2
        refine bodyPost_ret (v := .tuple #[quV t d mo (.slice A5 n5 c5), .bool true]) (by simp [results, Try.results13, go_sem, *]) rfl ?_
        have hne : (Value.slice A5 n5 c5).ownBlock ≠ some (w.heap.size + 1 + 1) := fun e => by have := (O9.out.lt _ e).1; have := hW3'.out; omega
        have hne2 : (Value.slice A5 n5 c5).ownBlock ≠ some w.heap.size := fun e => by have := (O9.out.lt _ e).1; have := hW3'.out; omega
        refine ⟨_, by rw [hdH.out], ?_, fun b hb => .inr (by have := (O9.out.lt _ hb).1; have := hW3'.out; omega), ?_⟩
        · exact ((((((O9.out.other (a := ⟨_, _, none⟩) hne2 _).other (a := ⟨_, _, none⟩) hne _).other (a := ⟨_, _, none⟩) hne _).other (a := ⟨_, _, none⟩) hne _).other (a := ⟨_, _, none⟩) hne _)).mono (Nat.zero_le _)
        · exact blS (blS (blS (blS (blS (B3.out.trans (hB.out.mono B3.out.size)) (Nat.le_refl _) _) (by omega) _) (by omega) _) (by omega) _) (by omega) _
  · have hd := decide_eq_false hin
    have hT := Lib.hid (dropT_no hin)
    clear hin
    go_upto_region 2 with (first | (go_at_call 26; with_reducible refine (rhasQ_c O.out hl x).mono ?_; rintro e w1 ⟨rfl, F1⟩; rw [hd]) | fail)
    have hX := Lib.hid F1
    have r0 := (c0.out.low F1 c0.out.lt).1; have r1 := (c1.out.low F1 c1.out.lt).1; have r2 := (c2.out.low F1 c2.out.lt).1; have r3 := (c3.out.low F1 c3.out.lt).1
    have OX := Lib.hid (O.out.below F1)
    have z1 : w.heap.size + 1 + 1 < w1.heap.size := by have := F1.size; have := v0.out.lt; omega
    have z2 : w.heap.size + 1 < w1.heap.size := by omega
    have z3 : w.heap.size < w1.heap.size := by omega
    clear F1 k0 k1 k2 k3 k4 k5
    obtain ⟨g0, g1⟩ := v0.out.low hX.out v0.out.lt
    obtain ⟨g2, g3⟩ := v1.out.low hX.out v1.out.lt
    obtain ⟨g4, g5⟩ := v2r.out.low hX.out v2r.out.lt
    obtain ⟨g6, g7⟩ := v3r.out.low hX.out v3r.out.lt
    go_wp2
    refine bodyPost_ret (v := .tuple #[quV t d mo (.slice A T.length c), .bool false]) (by simp [results, Try.results13, go_sem, *]) rfl ?_
    have hne : (Value.slice A T.length c).ownBlock ≠ some (w.heap.size + 1 + 1) := fun e => by have := hlow.out _ e; omega
    refine ⟨_, by rw [hd], ?_, fun b hb => .inl hb, ?_⟩
    · rw [hT.out]
      exact ((((OX.out.other (a := ⟨_, _, none⟩) hne _).other (a := ⟨_, _, none⟩) hne _).other (a := ⟨_, _, none⟩) hne _).other (a := ⟨_, _, none⟩) hne _).mono (Nat.zero_le _)
    · exact blS (blS (blS (blS (B3.out.trans (hX.out.mono B3.out.size)) (by omega) _) (by omega) _) (by omega) _) (by omega) _
end Go.Proofs.Ythapdlgaccfbfaa
