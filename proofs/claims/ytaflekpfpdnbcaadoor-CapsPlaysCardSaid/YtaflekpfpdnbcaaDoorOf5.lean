/- How many handles stand for a thing. -/
import Derived.Test.YtaflekpfpdnbcaaDoorLv
import Derived.Test.YtaflekpfpdnbcaaDoorRf8
namespace Go.Proofs.YtaflekpfpdnbcaaDoor
open Go.RowKit Go.Shelf
set_option linter.unusedVariables false
set_option linter.unusedSimpArgs false
set_option linter.unusedSectionVars false
set_option maxRecDepth 100000
attribute [local go_sem] Oper.semAt_some

def ofV (kind index : Int) (x : Nat × Rw) : Bool := decide (0 < x.2.gen) && (decide (x.2.kind = kind) && decide (x.2.index = index))
def cntO (kind index : Int) (pre : List (Nat × Rw)) : Nat := pre.countP (ofV kind index)
theorem cntO_snoc (kind index : Int) (pre : List (Nat × Rw)) (x : Nat × Rw) : cntO kind index (pre ++ [x]) = cntO kind index pre + (if ofV kind index x then 1 else 0) := by
  unfold cntO; rw [List.countP_append]; simp [List.countP_cons]
theorem range_countP {α : Type} (d : α) (f : α → Bool) (P : List α) : (List.range P.length).countP (fun i => f (P.getD i d)) = P.countP f := by
  have key : ∀ i, i ≤ P.length → (List.range i).countP (fun i => f (P.getD i d)) = (P.take i).countP f := by
    intro i
    induction i with
    | zero => intro _; simp
    | succ i ih =>
      intro hi
      rw [countP_take _ _ (by omega), List.range_succ, List.countP_append, ih (by omega)]
      have e : P.getD i d = P[i] := by simp [show i < P.length by omega]
      simp only [List.countP_cons, List.countP_nil, Nat.zero_add, e]
  have := key P.length (Nat.le_refl _)
  rwa [List.take_length] at this
theorem cntO_all {P : List Pc} {most : Nat} (hp : ∀ x ∈ P, x.Ok most) (kind index : Int) : cntO kind index (entA Rw.zero (vsP P) (xP most P)) = P.countP (isOf kind index) := by
  unfold cntO entA entF
  rw [List.countP_map, List.countP_filter, Nat.sub_zero, ← List.range_eq_range', List.length_map, ← range_countP Pc.new]
  apply List.countP_congr
  intro i hi
  have hil := List.mem_range.1 hi
  have e : P.getD i Pc.new = P[i] := by simp [hil]
  have h1 : (vsP P).getD i Rw.zero = P[i].row := by simp [hil]
  have h2 : (xP most P).getD i false = P[i].full most := by simp [hil]
  have ok := hp _ (List.getElem_mem hil)
  rw [e]
  simp only [Function.comp, h1, h2]
  generalize P[i] = x at *
  obtain ⟨zg, zb, zk, zi, zr⟩ := x
  unfold ofV isOf Pc.row Pc.full
  cases zb with
  | true => have := (ok.is rfl).1; dsimp only at this; simp; omega
  | false => simp [Rw.zero]

set_option maxHeartbeats 8000000 in
theorem of_c {w : World} {T : TD} {P : List Pc} {most : Nat} (h : TabS w T P most) (hT : Tab w) (kind index : Int) :
    Calls Tryd.prog 45 #[.pointer (some ⟨T.t, 0, none⟩), .int .i64 kind, .int .i64 index] w fun e w' => e = .returned (.int .i64 (P.countP (isOf kind index))) ∧ Below w.heap.size w w' := by
  have hxl := h.R.set.lt.2.2.2
  have hR := Lib.hid h.R
  have hfin := Lib.hid (cntO_all h.pc kind index)
  have x0 := (((h.c0.alloc (.cells #[.int .i64 kind] 3)).alloc (.cells #[.int .i64 index] 3)).alloc (.cells #[.int .i64 0] 3)).1
  refine (callsIn_wide (n := 5)).1 ?_
  refine callsIn_of_wp_marks Tryd.func45 rfl trivial ?_ rfl
  simp only [Tryd.ntmps45, List.size_toArray, List.length_cons, List.length_nil, Nat.reduceAdd, Nat.reduceSub, Array.replicate_succ, Array.replicate_zero, List.push_toArray, List.append_toArray, List.nil_append, List.cons_append]
  have hTT := Lib.hid hT
  have hlt0 := h.c0.lt
  clear h hT
  gi_wp2_with fail
  refine ⟨trivial, (callsIn_wide.2 (all_R T.r)).mono ?_⟩
  rintro e w' ⟨rfl, rfl⟩
  clear x0
  have bK := Boxed.new w 3 (.int .i64 kind)
  have bI := Boxed.new (w.alloc (.cells #[.int .i64 kind] 3)) 3 (.int .i64 index)
  have bC := Boxed.new ((w.alloc (.cells #[.int .i64 kind] 3)).alloc (.cells #[.int .i64 index] 3)) 3 (.int .i64 0)
  have bN := Boxed.new (((w.alloc (.cells #[.int .i64 kind] 3)).alloc (.cells #[.int .i64 index] 3)).alloc (.cells #[.int .i64 0] 3)) 58 (.pointer (some ⟨T.r, 0, none⟩))
  simp only [World.size_alloc] at bI bC bN ⊢
  have hB0 : Below w.heap.size w ((((w.alloc (.cells #[.int .i64 kind] 3)).alloc (.cells #[.int .i64 index] 3)).alloc (.cells #[.int .i64 0] 3)).alloc (.cells #[.pointer (some ⟨T.r, 0, none⟩)] 58)) := (((((Below.refl _ w).alloc (Nat.le_refl _) _).alloc (by simp) _).alloc (by simp; omega) _).alloc (by simp; omega) _)
  gi_wp2_with fail
  refine wpIn_rangeFunc_ownH rfl (by omega) (gf := 53) (lb := #[.pointer (some ⟨w.heap.size + 1 + 1 + 1, 0, none⟩)]) rfl trivial (enters_of Tryd.func53 (by kernel_rfl) rfl)
    (stops_R hR.out hTT.out (d := 5 - 1) (Bn := w.heap.size + 1 + 1 + 1) (by omega) hB0 (by simp) bN.cell) kpB_t (kpB_b (by simp; omega) (by simp)) (Below.refl _ _) (fun _ => rfl)
    (fun pre W => Boxed W (w.heap.size + 1 + 1) 3 (.int .i64 (cntO kind index pre)) ∧ Boxed W w.heap.size 3 (.int .i64 kind) ∧ Boxed W (w.heap.size + 1) 3 (.int .i64 index) ∧ Boxed W (w.heap.size + 1 + 1 + 1) 58 (.pointer (some ⟨T.r, 0, none⟩)) ∧ Below w.heap.size w W)
    (fun _ _ _ => False)
    (OwnFrom.and (Own.from (boxed_own (w.heap.size + 1 + 1) 3 (fun pre : List (Nat × Rw) => .int .i64 (cntO kind index pre))) _)
      (OwnFrom.and (Own.from (boxed_own w.heap.size 3 (fun _ => .int .i64 kind)) _)
        (OwnFrom.and (Own.from (boxed_own (w.heap.size + 1) 3 (fun _ => .int .i64 index)) _)
          (OwnFrom.and (Own.from (boxed_own (w.heap.size + 1 + 1 + 1) 58 (fun _ => .pointer (some ⟨T.r, 0, none⟩))) _) (ownFrom_below (Nat.le_refl _) (by simp; omega))))))
    (fun _ _ _ _ _ hs _ _ => hs)
    ⟨bC.alloc _, ((bK.alloc _).alloc _).alloc _, (bI.alloc _).alloc _, bN, hB0⟩
    (AxR (w.heap.size + 1 + 1 + 1 + 1) (fun B x => { tmps := #[.pointer (some ⟨T.t, 0, none⟩), .int .i64 kind, .int .i64 index, undef, .pointer (some ⟨w.heap.size, 0, none⟩), .pointer (some ⟨w.heap.size + 1, 0, none⟩), .int .i64 0, .pointer (some ⟨w.heap.size + 1 + 1, 0, none⟩), undef, .pointer (some ⟨B, 0, none⟩), .pointer (some ⟨T.t, 0, none⟩), .pointer (some ⟨T.t, 0, none⟩), .pointer (some ⟨T.t, 0, none⟩), .pointer (some ⟨T.r, 0, none⟩), .func (.func 53) #[] #[.pointer (some ⟨w.heap.size + 1 + 1 + 1, 0, none⟩)], .int .i64 x.1, .agg #[.int .i64 x.2.gen, .int .i64 x.2.kind, .int .i64 x.2.index, .int .i64 x.2.rights], undef, undef, undef, undef, undef, undef, undef, undef, undef, undef, undef, undef, undef, undef, undef, undef, undef, undef, undef, undef], defers := [] }))
    (fun x a' => AxR.own _ _ _ x a') ?assign ?body ?done ?stop
  case assign =>
    rintro l pre x W K ⟨hC, hKk, hI, hN, hB⟩ hK
    have hz : w.heap.size + 1 + 1 + 1 + 1 ≤ W.heap.size := by have := hN.lt; omega
    gi_wp2
    refine hK _ _ ((KeepsOthers.alloc _ _).from _) ⟨blA (Below.refl _ _) _ |>.mono hB.size, fun u hu => ?_⟩ ⟨hC.alloc _, hKk.alloc _, hI.alloc _, hN.alloc _, hB.alloc hB.size _⟩ ⟨W.heap.size, rfl, hz, World.alloc_heap_new W _⟩
    rw [hN.cell] at hu
    rw [(hN.alloc _).cell]; exact hu
  case body =>
    rintro l pre x a' W hl hrec ⟨hC, hKk, hI, hN, hB⟩ ⟨B, rfl, hBB, hblk⟩ hlt
    obtain ⟨xk, xg, xki, xi, xr⟩ := x
    have b0 : W.cell? ⟨B, 0, none⟩ = some (.int .i64 xg) := by simp [World.cell?, hblk]
    have b1 : W.cell? ⟨B, 1, none⟩ = some (.int .i64 xki) := by simp [World.cell?, hblk]
    have b2 : W.cell? ⟨B, 2, none⟩ = some (.int .i64 xi) := by simp [World.cell?, hblk]
    have ck := hKk.cell; have ci := hI.cell; have cc := hC.cell; have cf := hC.frozen
    have hlen : cntO kind index pre < 4096 := by
      have h1 : cntO kind index pre ≤ pre.length := List.countP_le_length
      have h2 := entF_length_le Rw.zero (vsP P) (xP most P) 0
      rw [show entF Rw.zero (vsP P) (xP most P) 0 = entA Rw.zero (vsP P) (xP most P) from rfl] at h2
      omega
    obtain ⟨cn, hcn⟩ : ∃ cn, cn = cntO kind index pre := ⟨_, rfl⟩
    rw [← hcn] at cc hlen
    have hst := cntO_snoc kind index pre (xk, (⟨xg, xki, xi, xr⟩ : Rw))
    rw [← hcn] at hst
    replace hcn := Lib.hid hcn
    have four : (0 < xg ∧ xki = kind ∧ xi = index) ∨ ¬ 0 < xg ∨ (0 < xg ∧ xki ≠ kind) ∨ (0 < xg ∧ xki = kind ∧ xi ≠ index) := by
      by_cases h0 : 0 < xg
      · by_cases h1 : xki = kind
        · by_cases h2 : xi = index
          · exact .inl ⟨h0, h1, h2⟩
          · exact .inr (.inr (.inr ⟨h0, h1, h2⟩))
        · exact .inr (.inr (.inl ⟨h0, h1⟩))
      · exact .inr (.inl h0)
    dsimp only
    have hne : B ≠ w.heap.size + 1 + 1 := by omega
    rcases four with ⟨h0, rfl, rfl⟩ | h0 | ⟨h0, h1⟩ | ⟨h0, rfl, h2⟩
    · have d0 : decide (0 < xg) = true := decide_eq_true h0
      have e1 : (xki == xki) = true := by simp
      have e2 : (xi == xi) = true := by simp
      have hy : ofV xki xi (xk, (⟨xg, xki, xi, xr⟩ : Rw)) = true := by simp [ofV, h0]
      rw [hy] at hst
      replace hst := Lib.hid hst
      clear hy
      replace h0 := Lib.hid h0
      gi_wp2
      have hN2 := hN.other (B' := w.heap.size + 1 + 1) (by omega) (.int .i64 ((cn : Int) + 1))
      refine ⟨(KeepsOthers.setCell _ _ _).from _, ⟨(Below.refl w.heap.size W).setCell (p := ⟨w.heap.size + 1 + 1, 0, none⟩) (by show w.heap.size ≤ w.heap.size + 1 + 1; omega) _, fun u hu => ?_⟩, ?_, hKk.other (by omega) _, hI.other (by omega) _, hN2, hB.setCell (p := ⟨w.heap.size + 1 + 1, 0, none⟩) (by show w.heap.size ≤ w.heap.size + 1 + 1; omega) _⟩
      · rw [hN.cell] at hu
        rw [hN2.cell]; exact hu
      · rw [hst.out]
        have := hC.set (.int .i64 ((cn : Int) + 1))
        exact this
    · have d0 : decide (0 < xg) = false := decide_eq_false h0
      have hy : ofV kind index (xk, (⟨xg, xki, xi, xr⟩ : Rw)) = false := by simp [ofV, h0]
      rw [hy] at hst
      replace hst := Lib.hid hst
      clear hy
      replace h0 := Lib.hid h0
      gi_wp2
      exact ⟨KeepsFrom.refl _ _, ⟨Below.refl _ _, fun _ h => h⟩, by rw [hst.out, hcn.out]; exact hC, hKk, hI, hN, hB⟩
    · have d0 : decide (0 < xg) = true := decide_eq_true h0
      have e1 : (xki == kind) = false := by simpa using h1
      have hy : ofV kind index (xk, (⟨xg, xki, xi, xr⟩ : Rw)) = false := by simp [ofV, h1]
      rw [hy] at hst
      replace hst := Lib.hid hst
      clear hy
      replace h0 := Lib.hid h0; replace h1 := Lib.hid h1
      gi_wp2
      exact ⟨KeepsFrom.refl _ _, ⟨Below.refl _ _, fun _ h => h⟩, by rw [hst.out, hcn.out]; exact hC, hKk, hI, hN, hB⟩
    · have d0 : decide (0 < xg) = true := decide_eq_true h0
      have e1 : (xki == xki) = true := by simp
      have e2 : (xi == index) = false := by simpa using h2
      have hy : ofV xki index (xk, (⟨xg, xki, xi, xr⟩ : Rw)) = false := by simp [ofV, h2]
      rw [hy] at hst
      replace hst := Lib.hid hst
      clear hy
      replace h0 := Lib.hid h0; replace h2 := Lib.hid h2
      gi_wp2
      exact ⟨KeepsFrom.refl _ _, ⟨Below.refl _ _, fun _ h => h⟩, by rw [hst.out, hcn.out]; exact hC, hKk, hI, hN, hB⟩
  case done =>
    rintro D ys W hD rfl ⟨hC, hKk, hI, hN, hB⟩ hK
    have hc := hC.cell
    rw [hfin.out] at hc
    gi_wp2
    refine ⟨by simp, .inl ⟨_, _, rfl, run_takeDeferred hK, ?_⟩⟩
    refine ⟨_, results_tmp rfl _ _ _, rfl, hB.trans (belowK_b (w := w) (Nat.le_refl _) W D _ _ (by simp at hD; omega) hK rfl rfl)⟩
  case stop =>
    rintro D c pre W _ _ h _
    exact h.elim
end Go.Proofs.YtaflekpfpdnbcaaDoor
