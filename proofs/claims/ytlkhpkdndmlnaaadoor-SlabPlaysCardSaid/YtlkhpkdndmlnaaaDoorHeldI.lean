/- Region.Held of numbers. -/
import Derived.Test.YtlkhpkdndmlnaaaDoorAllRI
import Derived.Test.YtlkhpkdndmlnaaaDoorOwn
namespace Go.Proofs.YtlkhpkdndmlnaaaDoor
open Go.RowKit Go.Shelf
set_option linter.unusedVariables false
set_option linter.unusedSimpArgs false
set_option linter.unusedSectionVars false
set_option maxRecDepth 100000
attribute [local go_sem] Oper.semAt_some

set_option maxHeartbeats 4000000 in
theorem held_I {w : World} {r b off n p g : Nat} {vs : List Int} {X : List Bool} (h : RegS iE w r b off n p g vs X) (hT : Tab w) :
    Calls Tryd.prog 24 #[.pointer (some ⟨r, 0, none⟩)] w fun e w' => ∃ v, e = .returned v ∧ OwnI w' w.heap.size v (plcs X) ∧ Below w.heap.size w w' := by
  obtain ⟨i0, hi, hz0, hz1, hz2⟩ := info_parts info3
  have hxl := h.set.lt.2.2.2
  refine (callsIn_wide (n := 5)).1 ?_
  refine callsIn_of_wp_marks Tryd.func24 rfl trivial ?_ rfl
  simp only [Tryd.ntmps24, List.size_toArray, List.length_cons, List.length_nil, Nat.reduceAdd, Nat.reduceSub, Array.replicate_succ, Array.replicate_zero, List.push_toArray, List.append_toArray, List.nil_append, List.cons_append]
  have hH := Lib.hid h; have hTT := Lib.hid hT
  clear h hT
  gi_wp2_with fail
  refine ⟨trivial, (callsIn_wide.2 (all_I r)).mono ?_⟩
  rintro e w' ⟨rfl, rfl⟩
  have bO := Boxed.new w 22 (.slice none 0 0)
  have bN := Boxed.new (w.alloc (.cells #[.slice none 0 0] 22)) 24 (.pointer (some ⟨r, 0, none⟩))
  rw [World.size_alloc] at bN ⊢
  have hB0 : Below w.heap.size w ((w.alloc (.cells #[.slice none 0 0] 22)).alloc (.cells #[.pointer (some ⟨r, 0, none⟩)] 24)) := ((Below.refl _ w).alloc (Nat.le_refl _) _).alloc (by simp) _
  gi_wp2_with fail
  refine wpIn_rangeFunc_ownG rfl (by omega) (gf := 38) (lb := #[.pointer (some ⟨w.heap.size + 1, 0, none⟩)]) rfl trivial (enters_of Tryd.func38 (by kernel_rfl) rfl)
    (stops_I hH.out hTT.out (d := 5 - 1) (Bn := w.heap.size + 1) (by omega) hB0 (by simp) bN.cell) kpB_t (kpB_b (by simp; omega) (by simp)) (Below.refl _ _) (fun _ => rfl)
    (fun pre W => (∃ v, Boxed W w.heap.size 22 v ∧ W.ownsRow w.heap.size 3 1 v (pre.map (fun x : Nat × Int => (x.1 : Int))).length ((pre.map (fun x : Nat × Int => (x.1 : Int))).map (Value.int .i64)) ∧ True) ∧ Boxed W (w.heap.size + 1) 24 (.pointer (some ⟨r, 0, none⟩)) ∧ Below w.heap.size w W)
    (fun _ _ _ => False)
    (OwnFrom.and (Own.from (holdsRow_own w.heap.size w.heap.size 22 3 1 (fun pre : List (Nat × Int) => (pre.map (fun x : Nat × Int => (x.1 : Int))).length) (fun pre : List (Nat × Int) => (pre.map (fun x : Nat × Int => (x.1 : Int))).map (Value.int .i64)) (fun (pre : List (Nat × Int)) v => True)) _)
      (OwnFrom.and (Own.from (boxed_own (w.heap.size + 1) 24 (fun _ => .pointer (some ⟨r, 0, none⟩))) _) (ownFrom_below (Nat.le_refl _) (by simp; omega))))
    (fun _ _ _ _ _ hs _ _ => hs)
    ⟨⟨_, bO.alloc _, World.ownsRow_nil _ _ _ _, trivial⟩, bN, hB0⟩
    (fun x => { tmps := #[.pointer (some ⟨r, 0, none⟩), undef, .slice none 0 0, .pointer (some ⟨w.heap.size, 0, none⟩), .int .i64 x.1, .pointer (some ⟨r, 0, none⟩), .func (.func 38) #[] #[.pointer (some ⟨w.heap.size + 1, 0, none⟩)], .int .i64 x.1, .int .i64 x.2, undef, undef, undef, undef, undef], defers := [] }) ?assign ?body ?done ?stop
  case assign =>
    intro l x W K hK
    gi_wp2
    exact hK
  case body =>
    rintro l pre x W ⟨⟨v, hv, hrow, -⟩, hN, hB⟩ hlt
    have hc := hv.cell
    have hl2 : pre.length < 4096 := by have := entF_length_le (0 : Int) vs X 0; rw [show entF (0 : Int) vs X 0 = entA 0 vs X from rfl] at this; omega
    gi_wp2_with (gi_at_builtin; refine wpListIn_append_own _ rfl _ _ 22 rfl w.heap.size 3 i0 (.int .i64 0) 1 8 Tryd.underlying22 hi hz0 hz1 hz2 rfl (by decide) _ _ _ rfl (hrow.alloc _) ⟨W.heap.size, 0, none⟩ 1 1 [.int .i64 x.1] rfl rfl (cell_one_new _ _ _) (by simp [Value.oneCell']) (by simp only [maxLen, List.length_map]; omega) (by simp only [List.length_map]; omega) (by have := hB.size; simp; omega) ?_; intro v' w1 hown' hgrow _; obtain ⟨g', cap', rfl⟩ := ownsRow_succ hown'; obtain ⟨hv1, hv2, hr2, hk2, hb2⟩ := hv.appended (by decide) hrow hB.size (Nat.le_refl _) hown' hgrow; have hc1 := hv1.cell; have hf1 := hv1.frozen)
    have hN2 : Boxed (w1.setCell ⟨w.heap.size, 0, none⟩ (.slice (some ⟨g', 0, none⟩) ((pre.map (fun x : Nat × Int => (x.1 : Int))).length + 1) cap')) (w.heap.size + 1) 24 (.pointer (some ⟨r, 0, none⟩)) :=
      ((hN.alloc _).kept hgrow (hN.not_row (by decide) hrow)).other (by omega) _
    rw [show (pre.map (fun x : Nat × Int => (x.1 : Int))).length = pre.length from List.length_map ..] at hv2 hr2 hN2 hb2 hk2
    refine ⟨hk2.from _, ⟨hb2, fun u hu => ?_⟩, ⟨_, hv2, ?_, trivial⟩, hN2, hB.trans hb2⟩
    · rw [hN.cell] at hu
      rw [hN2.cell]; exact hu
    · simpa using hr2
  case done =>
    rintro D ys W hD rfl ⟨⟨v, hv, hrow, -⟩, hN, hB⟩ hK
    have hc := hv.cell
    gi_wp2
    refine ⟨by simp, .inl ⟨_, _, rfl, run_takeDeferred hK, ?_⟩⟩
    refine ⟨_, results_tmp rfl _ _ _, v, rfl, ?_, hB.trans (belowK_b (w := w) (Nat.le_refl _) W D _ _ (by simp at hD; omega) hK rfl rfl)⟩
    have := ownsRow_putObj hrow (.deferred none) hK rfl
    rw [entA_places] at this
    exact this
  case stop =>
    rintro D c pre W _ _ h _
    exact h.elim
end Go.Proofs.YtlkhpkdndmlnaaaDoor
