/- All handles that are out. -/
import Derived.Test.YtaflekpfpdnbcaaDoorTw
import Derived.Test.YtaflekpfpdnbcaaDoorAllRR
import Derived.Test.YtaflekpfpdnbcaaDoorOwnES
import Derived.Maps.OwnIn
import Derived.Test.YtaflekpfpdnbcaaDoorSeqIn
namespace Go.Proofs.YtaflekpfpdnbcaaDoor
open Go.RowKit Go.Shelf
set_option linter.unusedVariables false
set_option linter.unusedSimpArgs false
set_option linter.unusedSectionVars false
set_option maxRecDepth 100000
attribute [local go_sem] Oper.semAt_some

def uE : Enc Int where
  t := 23
  sz := 1
  f := fun x => [.int .u64 x]
  z := .int .u64 0
  bytes := 8
  len := fun x => rfl
  one := fun x v h => by
    simp only [List.mem_cons, List.mem_nil_iff, or_false] at h
    subst h; rfl
  info := by kernel_rfl
  zs := rfl
  pos := by decide
  small := by decide
/-- A handle's bits, whatever is put in. -/
def packV (k gen rights : Int) : Int := bits .or .u64 (bits .or .u64 (IntKind.u64.wrap (IntKind.u64.wrap gen * 16777216)) (IntKind.u64.wrap (IntKind.u64.wrap (bits .and .i64 k 65535) * 256))) (IntKind.u64.wrap (bits .and .i64 rights 255))
theorem pack_any (w : World) (k gen rights : Int) :
    Calls Tryd.prog 16 #[.int .i64 k, .int .i64 gen, .int .i64 rights] w fun e w' => e = .returned (.int .u64 (packV k gen rights)) ∧ w = w' := by
  go_enter Tryd.func16, Tryd.ntmps16
  go_wp2
  go_ret
  exact ⟨rfl, rfl⟩
/-- The handles of some entries. -/
def hsV (pre : List (Nat × Rw)) : List Int := (pre.filter (fun x => decide (0 < x.2.gen))).map (fun x => packV x.1 x.2.gen x.2.rights)
theorem hsV_len (pre : List (Nat × Rw)) : (hsV pre).length ≤ pre.length := by unfold hsV; rw [List.length_map]; exact List.length_filter_le _ _
theorem hsV_yes {pre : List (Nat × Rw)} {x : Nat × Rw} (h : 0 < x.2.gen) : hsV (pre ++ [x]) = hsV pre ++ [packV x.1 x.2.gen x.2.rights] := by
  unfold hsV
  rw [List.filter_append, List.map_append, List.filter_cons_of_pos (by simpa using h)]; rfl
theorem hsV_no {pre : List (Nat × Rw)} {x : Nat × Rw} (h : ¬ 0 < x.2.gen) : hsV (pre ++ [x]) = hsV pre := by
  unfold hsV
  rw [List.filter_append, List.map_append, List.filter_cons_of_neg (by simpa using h)]; simp

/-- The loop's own variable, which lies in a block of its own. -/
def AxR (n0 : Nat) (f : Nat → Nat × Rw → Act) (x : Nat × Rw) (a' : Act) (W : World) : Prop :=
  ∃ B, a' = f B x ∧ n0 ≤ B ∧ W.heap[B]? = some (.cells #[.int .i64 x.2.gen, .int .i64 x.2.kind, .int .i64 x.2.index, .int .i64 x.2.rights] 56 (0, 0))
theorem AxR.own (n0 : Nat) (f : Nat → Nat × Rw → Act) (B0 : Nat) (x : Nat × Rw) (a' : Act) : OwnFrom B0 (fun (_ : Unit) W => AxR n0 f x a' W) := by
  intro s W W' row h hg hr
  obtain ⟨B, e, hB, hh⟩ := h
  refine ⟨B, e, hB, (hg.block B (Array.getElem?_eq_some_iff.1 hh).1 (fun e2 => ?_)).trans hh⟩
  obtain ⟨-, o, ho, hc⟩ := hr B e2.symm
  rw [hh] at ho
  injection ho with ho
  subst ho
  cases hc
set_option maxHeartbeats 8000000 in
theorem live_c {w : World} {T : TD} {P : List Pc} {most : Nat} (h : TabS w T P most) (hT : Tab w) :
    Calls Tryd.prog 20 #[.pointer (some ⟨T.t, 0, none⟩)] w fun e w' => ∃ v, e = .returned v ∧ OwnE uE w' w.heap.size v (hsV (entA Rw.zero (vsP P) (xP most P))) ∧ Below w.heap.size w w' := by
  have hxl := h.R.set.lt.2.2.2
  have hR := Lib.hid h.R
  have x0 := (h.c0.alloc (.cells #[.slice none 0 0] 28)).1
  refine (callsIn_wide (n := 5)).1 ?_
  refine callsIn_of_wp_marks Tryd.func20 rfl trivial ?_ rfl
  simp only [Tryd.ntmps20, List.size_toArray, List.length_cons, List.length_nil, Nat.reduceAdd, Nat.reduceSub, Array.replicate_succ, Array.replicate_zero, List.push_toArray, List.append_toArray, List.nil_append, List.cons_append]
  have hTT := Lib.hid hT
  clear h hT
  gi_wp2_with fail
  refine ⟨trivial, (callsIn_wide.2 (all_R T.r)).mono ?_⟩
  rintro e w' ⟨rfl, rfl⟩
  clear x0
  have bO := Boxed.new w 28 (.slice none 0 0)
  have bN := Boxed.new (w.alloc (.cells #[.slice none 0 0] 28)) 58 (.pointer (some ⟨T.r, 0, none⟩))
  rw [World.size_alloc] at bN ⊢
  have hB0 : Below w.heap.size w ((w.alloc (.cells #[.slice none 0 0] 28)).alloc (.cells #[.pointer (some ⟨T.r, 0, none⟩)] 58)) := ((Below.refl _ w).alloc (Nat.le_refl _) _).alloc (by simp) _
  gi_wp2_with fail
  refine wpIn_rangeFunc_ownH rfl (by omega) (gf := 53) (lb := #[.pointer (some ⟨w.heap.size + 1, 0, none⟩)]) rfl trivial (enters_of Tryd.func53 (by kernel_rfl) rfl)
    (stops_R hR.out hTT.out (d := 5 - 1) (Bn := w.heap.size + 1) (by omega) hB0 (by simp) bN.cell) kpB_t (kpB_b (by simp; omega) (by simp)) (Below.refl _ _) (fun _ => rfl)
    (fun pre W => (∃ v, Boxed W w.heap.size 28 v ∧ W.ownsRow w.heap.size 23 1 v (hsV pre).length (uE.row (hsV pre)) ∧ True) ∧ Boxed W (w.heap.size + 1) 58 (.pointer (some ⟨T.r, 0, none⟩)) ∧ Below w.heap.size w W)
    (fun _ _ _ => False)
    (OwnFrom.and (Own.from (holdsRow_own w.heap.size w.heap.size 28 23 1 (fun pre : List (Nat × Rw) => (hsV pre).length) (fun pre : List (Nat × Rw) => uE.row (hsV pre)) (fun (pre : List (Nat × Rw)) v => True)) _)
      (OwnFrom.and (Own.from (boxed_own (w.heap.size + 1) 58 (fun _ => .pointer (some ⟨T.r, 0, none⟩))) _) (ownFrom_below (Nat.le_refl _) (by simp; omega))))
    (fun _ _ _ _ _ hs _ _ => hs)
    ⟨⟨_, bO.alloc _, World.ownsRow_nil _ _ _ _, trivial⟩, bN, hB0⟩
    (AxR (w.heap.size + 2) (fun B x => { tmps := #[.pointer (some ⟨T.t, 0, none⟩), undef, .slice none 0 0, .pointer (some ⟨w.heap.size, 0, none⟩), .int .i64 x.1, .pointer (some ⟨B, 0, none⟩), .pointer (some ⟨T.t, 0, none⟩), .pointer (some ⟨T.t, 0, none⟩), .pointer (some ⟨T.t, 0, none⟩), .pointer (some ⟨T.r, 0, none⟩), .func (.func 53) #[] #[.pointer (some ⟨w.heap.size + 1, 0, none⟩)], .int .i64 x.1, .agg #[.int .i64 x.2.gen, .int .i64 x.2.kind, .int .i64 x.2.index, .int .i64 x.2.rights], undef, undef, undef, undef, undef, undef, undef, undef, undef, undef, undef, undef, undef, undef], defers := [] }))
    (fun x a' => AxR.own _ _ _ x a') ?assign ?body ?done ?stop
  case assign =>
    rintro l pre x W K ⟨⟨v, hv, hrow, -⟩, hN, hB⟩ hK
    have hz : w.heap.size + 2 ≤ W.heap.size := by have := hN.lt; have := hB0.size; have := hv.lt; omega
    gi_wp2
    refine hK _ _ ((KeepsOthers.alloc _ _).from _) ⟨blA (Below.refl _ _) _ |>.mono hB.size, fun u hu => ?_⟩ ⟨⟨v, hv.alloc _, hrow.alloc _, trivial⟩, hN.alloc _, hB.alloc hB.size _⟩ ⟨W.heap.size, rfl, hz, World.alloc_heap_new W _⟩
    rw [hN.cell] at hu
    rw [(hN.alloc _).cell]; exact hu
  case body =>
    rintro l pre x a' W hl hrec ⟨⟨v, hv, hrow, -⟩, hN, hB⟩ ⟨B, rfl, hBB, hblk⟩ hlt
    obtain ⟨xk, xg, xki, xi, xr⟩ := x
    have b0 : W.cell? ⟨B, 0, none⟩ = some (.int .i64 xg) := by simp [World.cell?, hblk]
    have b3 : W.cell? ⟨B, 3, none⟩ = some (.int .i64 xr) := by simp [World.cell?, hblk]
    dsimp only
    by_cases hg : 0 < xg
    · have hd : decide (0 < xg) = true := decide_eq_true hg
      have hy := Lib.hid (hsV_yes (pre := pre) (x := (xk, (⟨xg, xki, xi, xr⟩ : Rw))) hg)
      have hc := hv.cell
      have hf := hv.frozen
      have hlen : (hsV pre).length < 4096 := by
        have h1 := hsV_len pre
        have h2 := entF_length_le Rw.zero (vsP P) (xP most P) 0
        rw [show entF Rw.zero (vsP P) (xP most P) 0 = entA Rw.zero (vsP P) (xP most P) from rfl] at h2
        omega
      gi_wp2_with fail
      have hN0 := hN.cell
      have hk0 := KeepsOthers.drew W
      have hb0 : Below w.heap.size W W.drew := ⟨rfl, rfl, rfl, Nat.le_refl _, fun _ _ => rfl⟩
      have hne : v.ownBlock ≠ some B := by
        rcases hrow.2 with ⟨rfl, _⟩ | ⟨g, cap, cur, rfl, _, hgb, _⟩
        · intro e; cases e
        · intro e
          have e2 : g = B := by simpa [Value.ownBlock] using e
          subst e2
          rw [hblk] at hgb
          injection hgb with hgb
          injection hgb with h1 h2
          cases h2
      have hBl : B < W.heap.size := (Array.getElem?_eq_some_iff.1 hblk).1
      refine seq_startMIn 10 [(0, true), (1, true), (2, true), (3, true), (4, true), (5, true), (6, true), (7, false), (8, false), (9, false), (10, false)] (fun w' => w'.cell? ⟨w.heap.size, 0, none⟩ = some v ∧ w'.cell? ⟨B, 0, none⟩ = some (.int .i64 xg) ∧ w'.cell? ⟨B, 3, none⟩ = some (.int .i64 xr)) (by kernel_rfl) (fun a w h => h) (by kernel_rfl) (by kernel_rfl) rfl (by kernel_rfl) ⟨hc, b0, b3⟩ ?_
      iterate 7 (refine seq_read rfl (by first | rfl | (go_simp; done)) (fun w' hw => by obtain ⟨s0, s1, s2⟩ := hw; go_simp; with_reducible rfl) ?_; try simp only [Act.put, List.setIfInBounds_toArray, List.set_cons_zero, List.set_cons_succ])
      replace hv : Boxed W.drew w.heap.size 28 v := hv
      replace hrow : W.drew.ownsRow w.heap.size 23 1 v (hsV pre).length (uE.row (hsV pre)) := hrow
      replace hN : Boxed W.drew (w.heap.size + 1) 58 (.pointer (some ⟨T.r, 0, none⟩)) := hN
      replace hB : Below w.heap.size w W.drew := hB.trans hb0
      replace b0 : W.drew.cell? ⟨B, 0, none⟩ = some (.int .i64 xg) := b0
      replace b3 : W.drew.cell? ⟨B, 3, none⟩ = some (.int .i64 xr) := b3
      replace hBl : B < W.drew.heap.size := hBl
      clear hc hf hblk hrec
      generalize W.drew = W1 at *
      refine seq_call rfl (fun K hK => ?_)
      go_simp
      refine (pack_any _ _ _ _).mono ?_
      rintro e w5 ⟨rfl, rfl⟩
      refine hK.out _ _ ⟨hv.cell, b0, b3⟩ ?_
      clear hK K
      try simp only [Act.put, List.setIfInBounds_toArray, List.set_cons_zero, List.set_cons_succ]
      generalize hpv : packV (xk : Int) xg xr = pv at *
      refine seq_call rfl (fun K hK => ?_)
      go_simp
      have FA := blA (Below.refl W1.heap.size W1) (.cells #[.int .u64 pv] 23)
      refine hK.out _ _ ⟨(hv.alloc _).cell, (FA.cell (p := ⟨B, 0, none⟩) hBl).trans b0, (FA.cell (p := ⟨B, 3, none⟩) hBl).trans b3⟩ ?_
      clear hK K
      try simp only [Act.put, List.setIfInBounds_toArray, List.set_cons_zero, List.set_cons_succ]
      refine seq_call rfl (fun K hK => ?_)
      refine step_append_rowE (E := uE) (base := w.heap.size) (v := v) (xs := hsV pre) (ys := [pv]) rfl rfl Tryd.underlying28 rfl (hrow.alloc _) rfl (rowAt_new1 _ _ _ _ (by simp) rfl) rfl (by omega) (by simp) (by have := hB.size; simp; omega) ?_
      intro v' w4 O G1 G2 G3
      obtain ⟨A', k', rfl, -⟩ := O.slice
      obtain ⟨c1, c2, c3, c4, c5⟩ := hv.appended (by decide) hrow hB.size (Nat.le_refl _) O G2
      have hBs : w4.heap[B]? = (W1.alloc (.cells #[.int .u64 pv] 23)).heap[B]? := G2.5 B (by simp; omega) (fun e => hne e.symm)
      have hN2 := ((hN.alloc (.cells #[.int .u64 pv] 23)).kept G2 (hN.not_row (by decide) hrow)).other (B' := w.heap.size) (by omega) (.slice A' (hsV pre ++ [pv]).length k')
      refine hK.out _ _ ⟨c1.cell, (World.cell?_of_block hBs).trans ((FA.cell (p := ⟨B, 0, none⟩) hBl).trans b0), (World.cell?_of_block hBs).trans ((FA.cell (p := ⟨B, 3, none⟩) hBl).trans b3)⟩ ?_
      clear hK K
      try simp only [Act.put, List.setIfInBounds_toArray, List.set_cons_zero, List.set_cons_succ]
      have f1 := c1.cell; have f2 := c1.frozen
      refine seq_last rfl (fun K hK => ?_)
      go_simp
      refine hK.out _ _ ?_
      clear hK K
      gi_wp2
      have hel : (hsV pre ++ [pv]).length = (hsV pre).length + 1 := by simp
      rw [hel] at c2 c3 c4 c5 hN2
      refine ⟨(hk0.trans c4).from _, ⟨hb0.trans c5, fun u hu => ?_⟩, ⟨_, c2, ?_⟩, hN2, hB.trans c5⟩
      · rw [hN0] at hu
        rw [hN2.cell]; exact hu
      · rw [hy.out, hel]
        first | exact c3 | exact ⟨c3, trivial⟩
    · have hd : decide (0 < xg) = false := decide_eq_false hg
      have hy := Lib.hid (hsV_no (pre := pre) (x := (xk, (⟨xg, xki, xi, xr⟩ : Rw))) hg)
      gi_wp2
      refine ⟨KeepsFrom.refl _ _, ⟨Below.refl _ _, fun _ h => h⟩, ⟨v, hv, (by rw [hy.out]; first | exact hrow | exact ⟨hrow, trivial⟩)⟩, hN, hB⟩
  case done =>
    rintro D ys W hD rfl ⟨⟨v, hv, hrow, -⟩, hN, hB⟩ hK
    have hc := hv.cell
    gi_wp2
    refine ⟨by simp, .inl ⟨_, _, rfl, run_takeDeferred hK, ?_⟩⟩
    refine ⟨_, results_tmp rfl _ _ _, v, rfl, ?_, hB.trans (belowK_b (w := w) (Nat.le_refl _) W D _ _ (by simp at hD; omega) hK rfl rfl)⟩
    exact ownsRow_putObj hrow (.deferred none) hK rfl
  case stop =>
    rintro D c pre W _ _ h _
    exact h.elim
end Go.Proofs.YtaflekpfpdnbcaaDoor
