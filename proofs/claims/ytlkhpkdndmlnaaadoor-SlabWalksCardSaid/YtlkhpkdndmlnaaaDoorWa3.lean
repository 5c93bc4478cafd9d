/- SlabWalks. -/
import Derived.Test.YtlkhpkdndmlnaaaDoorFi3
import Derived.Test.YtlkhpkdndmlnaaaDoorOp3
import Derived.Test.YtlkhpkdndmlnaaaDoorSame
import Derived.Test.YtlkhpkdndmlnaaaDoorSeq
import Derived.Maps.OwnIn
namespace Go.Proofs.YtlkhpkdndmlnaaaDoor
open Go.RowKit Go.Shelf
set_option linter.unusedVariables false
set_option linter.unusedSimpArgs false
set_option linter.unusedSectionVars false
set_option maxRecDepth 100000
attribute [local go_sem] Oper.semAt_some

theorem nc_box {W W' : World} {row : Option Nat} {B : Nat} {t : TypeId} {v : Value} (hg : W.grownBy W' row) (hr : ∀ r, row = some r → ∃ o : Obj, W.heap[r]? = some o ∧ o.isCells = false) (h : Boxed W B t v) : Boxed W' B t v :=
  h.kept hg (fun e => by
    obtain ⟨o, ho, hc⟩ := hr B e.symm
    rw [show W.heap[B]? = _ from h] at ho; cases ho; cases hc)
theorem nc_own {W W' : World} {row : Option Nat} {base n : Nat} {e : TypeId} {sz : Nat} {v : Value} {xs : List Value} (hg : W.grownBy W' row) (hr : ∀ r, row = some r → ∃ o : Obj, W.heap[r]? = some o ∧ o.isCells = false) (h : W.ownsRow base e sz v n xs) : W'.ownsRow base e sz v n xs :=
  h.kept hg (by
    rcases h.2 with ⟨rfl, _⟩ | ⟨g, cap, cur, rfl, _, hgb, _⟩
    · exact .inl rfl
    · refine .inr fun e' => ?_
      obtain ⟨o, ho, hc⟩ := hr g (by simpa [Value.ownBlock] using e'.symm)
      rw [hgb] at ho; cases ho; cases hc)
/-- Two slices in boxes of one's own, and the iterator's box. -/
structure WkI (w0 : World) (q r : Nat) (pre : List (Nat × Int)) (W : World) : Prop where
  ex : ∃ vP vT, Boxed W (q + 2) 22 vP ∧ OwnI W q vP (pre.map (fun x => (x.1 : Int))) ∧ Boxed W (q + 3) 22 vT ∧ OwnI W q vT (pre.map (fun x => x.2)) ∧ vP.ownBlock ≠ vT.ownBlock
  bn : Boxed W (q + 4) 24 (.pointer (some ⟨r, 0, none⟩))
  bl : Below q w0 W
theorem WkI.own (w0 : World) (q r B : Nat) (hq : q ≤ w0.heap.size) (hB : q ≤ B) : OwnFrom B (WkI w0 q r) := by
  intro s W W' row h hg hr
  have hr2 : ∀ r, row = some r → ∃ o : Obj, W.heap[r]? = some o ∧ o.isCells = false := fun r e => (hr r e).2
  obtain ⟨vP, vT, h1, h2, h3, h4, h5⟩ := h.ex
  exact ⟨⟨vP, vT, nc_box hg hr2 h1, nc_own hg hr2 h2, nc_box hg hr2 h3, nc_own hg hr2 h4, h5⟩, nc_box hg hr2 h.bn, h.bl.grown hg (Nat.le_trans hq h.bl.size) (fun k e => Nat.le_trans hB (hr k e).1)⟩

/-- One of two slices has grown, and stands in its box. -/
theorem twoApp {W w1 : World} {q B B2 Bn r : Nat} {v u v' : Value} {xs ys xs' : List Int} {tmp : Obj} (hv : Boxed W B 22 v) (hrow : OwnI W q v xs) (hu : Boxed W B2 22 u) (hrow2 : OwnI W q u ys) (hne : v.ownBlock ≠ u.ownBlock)
    (hN : Boxed W Bn 24 (.pointer (some ⟨r, 0, none⟩))) (hown' : OwnI w1 q v' xs') (hgrow : (W.alloc tmp).grownBy w1 v.ownBlock) (hnew : v'.ownBlock = v.ownBlock ∨ v'.ownBlock = some (W.alloc tmp).heap.size) (h1 : B2 ≠ B) (h2 : Bn ≠ B) (hq : q ≤ B) (hqW : q ≤ W.heap.size) :
    Boxed w1 B 22 v ∧ Boxed (w1.setCell ⟨B, 0, none⟩ v') B 22 v' ∧ OwnI (w1.setCell ⟨B, 0, none⟩ v') q v' xs' ∧ Boxed (w1.setCell ⟨B, 0, none⟩ v') B2 22 u ∧ OwnI (w1.setCell ⟨B, 0, none⟩ v') q u ys ∧ v'.ownBlock ≠ u.ownBlock ∧ Boxed (w1.setCell ⟨B, 0, none⟩ v') Bn 24 (.pointer (some ⟨r, 0, none⟩)) ∧ KeepsOthers W (w1.setCell ⟨B, 0, none⟩ v') ∧ Below q W (w1.setCell ⟨B, 0, none⟩ v') := by
  obtain ⟨a1, a2, a3, a4, a5⟩ := hv.appended (by decide) hrow hqW hq hown' hgrow
  have b1 := (hu.alloc tmp).kept hgrow (hu.not_row (by decide) hrow)
  have b2 := (hN.alloc tmp).kept hgrow (hN.not_row (by decide) hrow)
  have c1 : OwnI w1 q u ys := (hrow2.alloc tmp).block (fun k hk => hgrow.5 k (by have := (hrow2.lt k hk).2; simp; omega) (fun e => hne (e.symm.trans hk.symm)))
  refine ⟨a1, a2, a3, b1.other h1 _, c1.block (fun k hk => Below.heap_setCell _ _ _ _ (fun e => ?_)), fun e => ?_, b2.other h2 _, a4, a5⟩
  · have : k = B := e
    subst this
    exact a1.not_row (by decide) c1 hk.symm
  · rcases hnew with e2 | e2
    · exact hne (e2.symm.trans e)
    · rw [e2] at e
      have := (hrow2.lt _ e.symm).2
      simp at this; omega

set_option maxHeartbeats 16000000 in
theorem walks3_walk (a : Int) (A1 : Option Addr) (c1 : Nat) (xs : List Op3) (w : World) (hT : Tab w) (hr : RowAt Op3.cells 4 w A1 xs) :
    Calls Tryd.prog 6 #[.int .i64 a, .slice A1 xs.length c1] w fun e w' => e = .returned (.bool true) ∧ Below w.heap.size w w' := by
  obtain ⟨i0, hi0, hz0, hz1, hz2⟩ := info_parts info3
  have HR := Lib.hid hr; have HT := Lib.hid hT
  obtain ⟨N, hN⟩ : ∃ N, N = xs.length := ⟨_, rfl⟩
  obtain ⟨n, hn, hn32⟩ := mask31 a
  rw [← hN]
  clear hr hT
  refine (callsIn_wide (n := 5)).1 ?_
  refine callsIn_of_wp_marks Tryd.func6 rfl trivial ?_ rfl
  simp only [Tryd.ntmps6, List.size_toArray, List.length_cons, List.length_nil, Nat.reduceAdd, Nat.reduceSub, Array.replicate_succ, Array.replicate_zero, List.push_toArray, List.append_toArray, List.nil_append, List.cons_append]
  refine wpIn_wide.2 ?_
  by_cases hbig : 50 < N
  · have d1 : decide ((50 : Int) < (N : Int)) = true := decide_eq_true (by omega)
    have d2 : decide (50 < N) = true := decide_eq_true hbig
    replace hN := Lib.hid hN
    clear hbig
    go_wp2_with fail
    refine (alive03_c w HT.out).mono ?_
    rintro e w1 ⟨rfl, F⟩
    replace F := Lib.hid F
    go_wp2
    exact ⟨_, results_tmp rfl _ _ _, rfl, F.out⟩
  have d1 : decide ((50 : Int) < (N : Int)) = false := decide_eq_false (by omega)
  have d2 : decide (50 < N) = false := decide_eq_false hbig
  replace hN := Lib.hid hN
  have hN50 : N ≤ 50 := by omega
  clear hbig
  go_wp2_with fail
  refine (alive03_c w HT.out).mono ?_
  rintro e w1 ⟨rfl, F⟩
  have B1 := Lib.hid (F.trans ((blA (Below.refl w1.heap.size w1) (.cells #[.int .i64 n] 3)).mono F.size))
  clear F
  go_wp2_with fail
  refine (new_I (cs := [(n : Int)]) (cc := 1) (row_new w1 #[.int .i64 n] 3 [(n : Int)] rfl) (by simp) (by simp)).mono ?_
  rintro e w2 ⟨s, b, ds, rfl, S, hds, F⟩
  obtain ⟨d, rfl, hdn, O⟩ := S.one (m := n) (by rw [hds]; simp [capsR, capR]; omega) (B1.out.size) (Nat.le_refl _) (B1.out.trans (F.mono B1.out.size)) HT.out
  have O0 := Lib.hid O
  clear hds F B1 O
  go_wp2_with fail
  refine (region_I S (k := 0) (by simp)).mono ?_
  rintro e w' ⟨rfl, rfl⟩
  rw [show [d][0] = d from rfl]
  clear S hdn
  generalize d.r = r at *; generalize d.off = off at *; generalize d.p = p at *; generalize d.g = g at *
  clear d
  go_wp2_with fail
  have O1 := Lib.hid (show ∃ vs X, OneR iE w w2 r b off n p g vs X from ⟨_, _, O0.out⟩)
  clear O0
  go_loopw [28] (fun ii wr => ∃ (i : Nat), ii = .int .i64 i ∧ Hid (∃ vs X, OneR iE w wr r b off n p g vs X) ∧ Hid (i ≤ N)) (fun ii _ => N - (intOf ii).toNat)
  case atStart => exact ⟨0, rfl, O1, Lib.hid (Nat.zero_le _)⟩
  case round =>
    clear O1
    obtain ⟨i, rfl, O, hi⟩ := hrel
    obtain ⟨vs, X, O⟩ := O.out
    replace O := Lib.hid O
    by_cases hlt : i < N
    · obtain ⟨bb, off', rfl, hbl, z0, z1, z2, z3⟩ := HR.out.op3 (i := i) (by have := hN.out; omega)
      obtain ⟨x, hx⟩ : ∃ x, x = xs[i]'(by have := hN.out; omega) := ⟨_, rfl⟩
      rw [← hx] at z0 z1 z2 z3
      obtain ⟨xr, xk, xp, xv⟩ := x
      replace z0 := (O.out.B.cell (p := ⟨bb, off' + i * 4, none⟩) hbl).trans z0
      replace z1 := (O.out.B.cell (p := ⟨bb, off' + i * 4 + 1, none⟩) hbl).trans z1
      replace z2 := (O.out.B.cell (p := ⟨bb, off' + i * 4 + 2, none⟩) hbl).trans z2
      replace z3 := (O.out.B.cell (p := ⟨bb, off' + i * 4 + 3, none⟩) hbl).trans z3
      dsimp only at z0 z1 z2 z3
      have hlH := Lib.hid hlt
      have hi51 : i < 51 := by omega
      replace O := Lib.hid (O.out.below (blA (Below.refl wr.heap.size wr) (.cells #[.int .i64 xr, .int .i64 xk, .int .i64 xp, .int .i64 xv] 49)))
      clear hx hbl
      by_cases h0 : xk = 0
      · subst h0
        go_wp2_with fail
        refine (take_i O.out.R O.out.tab xv).mono ?_
        rintro e w3 ⟨rfl, R, F⟩
        have O2 := Lib.hid (show ∃ vs X, OneR iE w w3 r b off n p g vs X from ⟨_, _, O.out.turn R F⟩)
        clear R F O z0 z1 z2 z3
        go_wp2
        go_roundw
        case rel => exact ⟨i + 1, by go_num, O2, hlH⟩
        case measure => have := hlH.out; simp [intOf]; omega
      by_cases h1 : xk = 1
      · subst h1
        clear h0
        go_wp2_with fail
        refine (give_i O.out.R xp).mono ?_
        rintro e w3 ⟨rfl, R, F⟩
        have O2 := Lib.hid (show ∃ vs X, OneR iE w w3 r b off n p g vs X from ⟨_, _, O.out.turn R F⟩)
        clear R F O z0 z1 z2 z3
        go_wp2
        go_roundw
        case rel => exact ⟨i + 1, by go_num, O2, hlH⟩
        case measure => have := hlH.out; simp [intOf]; omega
      by_cases h2 : xk = 2
      · subst h2
        clear h0 h1
        go_wp2_with fail
        refine (set_i O.out.R xp xv).mono ?_
        rintro e w3 ⟨rfl, R, F⟩
        have O2 := Lib.hid (show ∃ vs X, OneR iE w w3 r b off n p g vs X from ⟨_, _, O.out.turn R F⟩)
        clear R F O z0 z1 z2 z3
        go_wp2
        go_roundw
        case rel => exact ⟨i + 1, by go_num, O2, hlH⟩
        case measure => have := hlH.out; simp [intOf]; omega
      · have e0 : (xk == 0) = false := by simpa using h0
        have e1 : (xk == 1) = false := by simpa using h1
        have e2 : (xk == 2) = false := by simpa using h2
        have O2 := Lib.hid (show ∃ vs X, OneR iE w (wr.alloc (.cells #[.int .i64 xr, .int .i64 xk, .int .i64 xp, .int .i64 xv] 49)) r b off n p g vs X from ⟨_, _, O.out⟩)
        clear O h0 h1 h2
        go_wp2
        go_roundw
        case rel => exact ⟨i + 1, by go_num, O2, hlH⟩
        case measure => have := hlH.out; simp [intOf]; omega
    · obtain rfl : N = i := by have := hi.out; omega
      clear hi hlt
      go_wp2_with fail
      obtain ⟨q, hq⟩ : ∃ q, q = wr.heap.size := ⟨_, rfl⟩
      refine (all_I r).mono ?_
      rintro e w5 ⟨rfl, rfl⟩
      have bA := Boxed.new ((wr.alloc (.cells #[] 3)).alloc (.cells #[] 3)) 22 (.slice (some ⟨wr.heap.size, 0, none⟩) 0 0)
      have bB := Boxed.new (((wr.alloc (.cells #[] 3)).alloc (.cells #[] 3)).alloc (.cells #[.slice (some ⟨wr.heap.size, 0, none⟩) 0 0] 22)) 22 (.slice (some ⟨wr.heap.size + 1, 0, none⟩) 0 0)
      have bN := Boxed.new ((((wr.alloc (.cells #[] 3)).alloc (.cells #[] 3)).alloc (.cells #[.slice (some ⟨wr.heap.size, 0, none⟩) 0 0] 22)).alloc (.cells #[.slice (some ⟨wr.heap.size + 1, 0, none⟩) 0 0] 22)) 24 (.pointer (some ⟨r, 0, none⟩))
      have hP := OwnI.lit wr wr.heap.size (Nat.le_refl _) [] #[] rfl (Nat.zero_le _)
      have hQ := OwnI.lit (wr.alloc (.cells #[] 3)) wr.heap.size (by simp) [] #[] rfl (Nat.zero_le _)
      have bA' := (bA.alloc (.cells #[.slice (some ⟨wr.heap.size + 1, 0, none⟩) 0 0] 22)).alloc (.cells #[.pointer (some ⟨r, 0, none⟩)] 24)
      have bB' := bB.alloc (.cells #[.pointer (some ⟨r, 0, none⟩)] 24)
      have hP' := (((hP.alloc (.cells #[] 3)).alloc (.cells #[.slice (some ⟨wr.heap.size, 0, none⟩) 0 0] 22)).alloc (.cells #[.slice (some ⟨wr.heap.size + 1, 0, none⟩) 0 0] 22)).alloc (.cells #[.pointer (some ⟨r, 0, none⟩)] 24)
      have hQ' := ((hQ.alloc (.cells #[.slice (some ⟨wr.heap.size, 0, none⟩) 0 0] 22)).alloc (.cells #[.slice (some ⟨wr.heap.size + 1, 0, none⟩) 0 0] 22)).alloc (.cells #[.pointer (some ⟨r, 0, none⟩)] 24)
      have hB0 : Below wr.heap.size wr (((((wr.alloc (.cells #[] 3)).alloc (.cells #[] 3)).alloc (.cells #[.slice (some ⟨wr.heap.size, 0, none⟩) 0 0] 22)).alloc (.cells #[.slice (some ⟨wr.heap.size + 1, 0, none⟩) 0 0] 22)).alloc (.cells #[.pointer (some ⟨r, 0, none⟩)] 24)) := blA (blA (blA (blA (blA (Below.refl _ _) _) _) _) _) _
      simp only [World.size_alloc, Nat.add_assoc, Nat.reduceAdd] at bA' bB' bN hP' hQ' ⊢
      have W0 := Lib.hid (show WkI wr wr.heap.size r [] (((((wr.alloc (.cells #[] 3)).alloc (.cells #[] 3)).alloc (.cells #[.slice (some ⟨wr.heap.size, 0, none⟩) 0 0] 22)).alloc (.cells #[.slice (some ⟨wr.heap.size + 1, 0, none⟩) 0 0] 22)).alloc (.cells #[.pointer (some ⟨r, 0, none⟩)] 24)) from
        ⟨⟨_, _, bA', hP', bB', hQ', by simp [Value.ownBlock]⟩, bN, hB0⟩)
      have hsz : (((((wr.alloc (.cells #[] 3)).alloc (.cells #[] 3)).alloc (.cells #[.slice (some ⟨wr.heap.size, 0, none⟩) 0 0] 22)).alloc (.cells #[.slice (some ⟨wr.heap.size + 1, 0, none⟩) 0 0] 22)).alloc (.cells #[.pointer (some ⟨r, 0, none⟩)] 24)).heap.size = wr.heap.size + 5 := by simp
      generalize (((((wr.alloc (.cells #[] 3)).alloc (.cells #[] 3)).alloc (.cells #[.slice (some ⟨wr.heap.size, 0, none⟩) 0 0] 22)).alloc (.cells #[.slice (some ⟨wr.heap.size + 1, 0, none⟩) 0 0] 22)).alloc (.cells #[.pointer (some ⟨r, 0, none⟩)] 24)) = w5 at *
      clear bA bB hP hQ bA' bB' hP' hQ'
      replace hB0 := Lib.hid hB0; replace bN := Lib.hid bN; replace hq := Lib.hid hq; replace hsz := Lib.hid hsz
      go_wp2_with fail
      have R5 := Lib.hid (O.out.R)
      have T5 := Lib.hid (O.out.tab)
      have hvl : (entA (0 : Int) vs X).length ≤ 4096 := by have h1 := O.out.R.set.lt.2.2.2; have h2 := entF_length_le (0 : Int) vs X 0; rw [show entF (0 : Int) vs X 0 = entA 0 vs X from rfl] at h2; omega
      refine wpIn_wide.1 (?_ : Code.wpIn Fence.wide 5 _ _ _ _ _)
      refine' wpIn_rangeFunc_ownG rfl (by omega) (gf := 38) (lb := #[.pointer (some ⟨wr.heap.size + 4, 0, none⟩)]) rfl trivial (enters_of Tryd.func38 (by kernel_rfl) rfl)
        (stops_I R5.out T5.out (d := 5 - 1) (Bn := wr.heap.size + 4) (by omega) hB0.out (by rw [hsz.out]; omega) bN.out.cell) kpB_t (kpB_b (by rw [hsz.out]; omega) (by rw [hsz.out]; omega)) (Below.refl _ _) (fun _ => rfl)
        (WkI wr wr.heap.size r) (fun _ _ _ => False) (WkI.own wr wr.heap.size r _ (Nat.le_refl _) (by rw [hsz.out]; omega)) (fun _ _ _ _ _ hs _ _ => hs) W0.out _ ?assign ?body ?done ?stop
      case assign =>
        intro l x W K hK
        gi_wp2
        exact hK
      case body =>
        rintro l pre x W hI hlt
        obtain ⟨vP, vT, h1, h2, h3, h4, h5⟩ := hI.ex
        have hc := h1.cell
        have hl2 : pre.length < 4096 := by omega
        gi_wp2_with (first | (gi_at_builtin; refine wpListIn_append_own_at _ rfl _ _ 22 rfl wr.heap.size 3 i0 (.int .i64 0) 1 8 Tryd.underlying22 hi0 hz0 hz1 hz2 rfl (by decide) _ _ _ rfl (a5.alloc _) ⟨w6.heap.size, 0, none⟩ 1 1 [.int .i64 x.2] rfl rfl (by have hh := cell_one_new (w6.setCell ⟨wr.heap.size + 2, 0, none⟩ (.slice (some ⟨g', 0, none⟩) (pre.length + 1) cap')) (.int .i64 x.2) 3; rw [World.size_setCell] at hh; exact hh) (by simp [Value.oneCell']) (by simp only [maxLen, List.length_map]; omega) (by simp only [List.length_map]; omega) (by have := hI.bl.size; have := a9.size; simp at this ⊢; omega) ?_; intro v'' w7 hown'' hgrow2 _ hnew2; obtain ⟨g'', cap'', rfl⟩ := ownsRow_succ hown''; obtain ⟨e1, e2, e3, e4, e5, e6, e7, e8, e9⟩ := twoApp a4 a5 a2 a3 (fun e => a6 e.symm) a7 (xs' := pre.map (fun x => x.2) ++ [x.2]) (OwnI.snoc hown'' rfl rfl) hgrow2 hnew2 (by omega) (by omega) (by omega) (Nat.le_trans hI.bl.size a9.size); rw [show (pre.map (fun x : Nat × Int => x.2)).length + 1 = pre.length + 1 by rw [List.length_map]] at e2 e3 e4 e5 e6 e7 e8 e9; have hd1 := e1.cell; have hf2 := e1.frozen) | (gi_at_builtin; refine wpListIn_append_own_at _ rfl _ _ 22 rfl wr.heap.size 3 i0 (.int .i64 0) 1 8 Tryd.underlying22 hi0 hz0 hz1 hz2 rfl (by decide) _ _ _ rfl (h2.alloc _) ⟨W.heap.size, 0, none⟩ 1 1 [.int .i64 x.1] rfl rfl (cell_one_new _ _ _) (by simp [Value.oneCell']) (by simp only [maxLen, List.length_map]; omega) (by simp only [List.length_map]; omega) (by have := hI.bl.size; simp; omega) ?_; intro v' w6 hown' hgrow _ hnew; obtain ⟨g', cap', rfl⟩ := ownsRow_succ hown'; obtain ⟨a1, a2, a3, a4, a5, a6, a7, a8, a9⟩ := twoApp h1 h2 h3 h4 h5 hI.bn (xs' := pre.map (fun x => (x.1 : Int)) ++ [(x.1 : Int)]) (OwnI.snoc hown' rfl rfl) hgrow hnew (by omega) (by omega) (by omega) hI.bl.size; rw [show (pre.map (fun x : Nat × Int => (x.1 : Int))).length + 1 = pre.length + 1 by rw [List.length_map]] at a2 a3 a4 a5 a6 a7 a8 a9; have hc1 := a1.cell; have hf1 := a1.frozen; have hc4 := a4.cell))
        refine ⟨(a8.from _).trans (e8.from _), ⟨a9.trans e9, fun u hu => ?_⟩, ⟨_, _, e4, ?_, e2, ?_, fun e => e6 e.symm⟩, e7, hI.bl.trans (a9.trans e9)⟩
        · rw [hI.bn.cell] at hu
          rw [e7.cell]; exact hu
        · simpa using e5
        · simpa using e3
      case done =>
        rintro D ys W hD rfl hI hK
        obtain ⟨vP, vT, h1, h2, h3, h4, h5⟩ := hI.ex
        have O6 := Lib.hid (O.out.below hI.bl)
        obtain ⟨AP, kP, rfl, RP, -, lP⟩ := h2.form
        obtain ⟨AT, kT, rfl, RT, -, lT⟩ := h4.form
        rw [entA_places] at RP h2 h1 h5
        have hlen : ((entA (0 : Int) vs X).map (fun x => x.2)).length = (plcs X).length := by rw [List.length_map, entA_length, plcs_length]
        obtain ⟨M, hM⟩ : ∃ M, M = (plcs X).length := ⟨_, rfl⟩
        have hM4 : M ≤ 4096 := by rw [hM, plcs_length, ← entA_length (0 : Int) vs]; exact hvl
        have c8 := h1.cell; have c9 := h3.cell
        rw [← hM] at c8; rw [hlen, ← hM] at c9
        have P8 := Lib.hid RP; have P9 := Lib.hid RT
        have hMe := Lib.hid (show M = (entA (0 : Int) vs X).length by rw [hM, plcs_length, entA_length])
        have hcnt := Lib.hid (show M = X.count true by rw [hM, plcs_length])
        have hDs := Lib.hid (show wr.heap.size + 5 ≤ D by rw [hsz.out] at hD; exact hD)
        replace hM := Lib.hid hM
        replace hK := Lib.hid hK
        clear h1 h2 h3 h4 h5 RP RT hI hD lP lT hlen hvl
        go_wp2_with fail
        have KC : Hid (∀ Wc, Below W.heap.size W Wc → Wc.cell? ⟨wr.heap.size + 2, 0, none⟩ = some (.slice AP M kP) ∧ Wc.cell? ⟨wr.heap.size + 3, 0, none⟩ = some (.slice AT M kT)) := Lib.hid (fun Wc F => ⟨(F.cell (p := ⟨wr.heap.size + 2, 0, none⟩) (World.block_lt_of_cell? W _ c8)).trans c8, (F.cell (p := ⟨wr.heap.size + 3, 0, none⟩) (World.block_lt_of_cell? W _ c9)).trans c9⟩)
        have hKW : Hid (∀ Wc, Below W.heap.size W Wc → Wc.heap[D]? = some (.deferred (some []))) := Lib.hid (fun Wc F => (F.block D (Array.getElem?_eq_some_iff.1 hK.out).1).trans hK.out)
        have BW0 := Lib.hid (show Below W.heap.size W W.drew from ⟨rfl, rfl, rfl, Nat.le_refl _, fun _ _ => rfl⟩)
        clear c8 c9
        refine seq_start [(0, true), (1, true), (2, false), (3, false), (4, true)] (fun w' => w'.cell? ⟨wr.heap.size + 2, 0, none⟩ = some (.slice AP M kP)) (by kernel_rfl) (by kernel_rfl) rfl (by kernel_rfl) (KC.out _ BW0.out).1 ?_
        iterate 2 (refine seq_read rfl (by first | rfl | (go_simp; done)) (fun w' hw => by go_simp; with_reducible rfl) ?_; try simp only [Act.put, List.setIfInBounds_toArray, List.set_cons_zero, List.set_cons_succ])
        generalize W.drew = W7 at *
        have O7 := Lib.hid (O6.out.below BW0.out)
        refine seq_call rfl (fun K hK1 => ?_)
        go_simp
        refine (held_I O7.out.R O7.out.tab).mono ?_
        rintro e w7 ⟨v, rfl, OH, F⟩
        have BW1 := Lib.hid (BW0.out.trans (F.mono BW0.out.size))
        obtain ⟨AH, kH, rfl, RH, -, -⟩ := OH.form
        refine hK1.out _ _ (KC.out _ BW1.out).1 ?_
        clear hK1 K
        try simp only [Act.put, List.setIfInBounds_toArray, List.set_cons_zero, List.set_cons_succ]
        refine seq_call rfl (fun K hK1 => ?_)
        go_simp
        have hsm := same_c (ca := kP) (cb := kH) (P8.out.below BW1.out) RH (by rw [← hM.out]; omega) (by rw [← hM.out]; omega)
        rw [decide_eq_true rfl, ← hM.out] at hsm
        rw [← hM.out]
        refine hsm.mono ?_
        rintro e w8 ⟨rfl, F2⟩
        have BW2 := Lib.hid (BW1.out.trans (F2.mono BW1.out.size))
        refine hK1.out _ _ (KC.out _ BW2.out).1 ?_
        clear hK1 K hsm RH OH F F2 BW1 O7 BW0
        try simp only [Act.put, List.setIfInBounds_toArray, List.set_cons_zero, List.set_cons_succ]
        iterate 1 (refine seq_read rfl (by first | rfl | (go_simp; done)) (fun w' hw => by go_simp; with_reducible rfl) ?_; try simp only [Act.put, List.setIfInBounds_toArray, List.set_cons_zero, List.set_cons_succ])
        refine seq_done ?_
        have O8 := Lib.hid (O6.out.below BW2.out)
        obtain ⟨k8, k9⟩ := KC.out _ BW2.out
        clear O6
        go_wp2_with fail
        go_loop [76] (fun ii => ∃ i : Nat, ii = .int .i64 i ∧ Hid (i ≤ M)) (fun ii => M - (intOf ii).toNat)
        case atStart => exact ⟨0, rfl, Lib.hid (Nat.zero_le _)⟩
        case round =>
          obtain ⟨i, rfl, hi⟩ := hrel
          by_cases hlt : i < M
          · have hl1 : i < (entA (0 : Int) vs X).length := by rw [← hMe.out]; exact hlt
            obtain ⟨ea1, ea2, ea3⟩ := entA_at (0 : Int) vs X hl1
            obtain ⟨bP, oP, rfl, cP⟩ := RowAt.get (P8.out.below BW2.out) (i := i) (by rw [← hM.out]; exact hlt)
            obtain ⟨bT, oT, rfl, cT⟩ := RowAt.get (P9.out.below BW2.out) (i := i) (by rw [List.length_map]; exact hl1)
            obtain ⟨K, hK9⟩ : ∃ K, K = (entA (0 : Int) vs X)[i].1 := ⟨_, rfl⟩
            obtain ⟨V, hV9⟩ : ∃ V, V = (entA (0 : Int) vs X)[i].2 := ⟨_, rfl⟩
            rw [← hK9] at ea1 ea2 ea3
            rw [← hV9] at ea3
            have eP : (plcs X).getD i 0 = (K : Int) := by rw [← entA_places (0 : Int) vs, List.getD_eq_getElem?_getD, List.getElem?_map, List.getElem?_eq_getElem hl1, hK9]; rfl
            have eT : ((entA (0 : Int) vs X).map (fun x => x.2)).getD i 0 = V := by rw [List.getD_eq_getElem?_getD, List.getElem?_map, List.getElem?_eq_getElem hl1, hV9]; rfl
            rw [eP] at cP; rw [eT] at cT
            have hAt : Hid (atV 0 vs X (K : Int) = V) := Lib.hid (by unfold atV; rw [ea2, if_pos rfl]; exact ea3)
            have hHas := Lib.hid ea2
            have hprev : Hid (0 < i → ∃ L : Nat, L < K ∧ w8.cell? ⟨bP, oP + (i - 1), none⟩ = some (.int .i64 (L : Int))) := Lib.hid (fun h0 => by
              have hl0 : i - 1 < (entA (0 : Int) vs X).length := by omega
              obtain ⟨bP2, oP2, e2, cP2⟩ := RowAt.get (P8.out.below BW2.out) (i := i - 1) (by rw [← hM.out]; omega)
              injection e2 with e2; injection e2 with e3 e4; subst e3; subst e4
              refine ⟨(entA (0 : Int) vs X)[i - 1].1, ?_, ?_⟩
              · rw [hK9]; exact entA_rise (0 : Int) vs X (by omega) hl1
              · rw [cP2, ← entA_places (0 : Int) vs, List.getD_eq_getElem?_getD, List.getElem?_map, List.getElem?_eq_getElem hl0]; rfl)
            have hi4 : i < 4096 := by omega
            have hlH := Lib.hid hlt
            have hxl := O8.out.R.set.lt.2.2.2
            have hK4 : K < 4096 := by omega
            have eV : (V != V) = false := by simp
            clear hK9 hV9 eP eT ea1 ea2 ea3 hl1 hxl
            by_cases h0 : 0 < i
            · obtain ⟨L, hLK, cL⟩ := hprev.out h0
              have dL : decide ((K : Int) ≤ (L : Int)) = false := decide_eq_false (by omega)
              have dL2 : decide (K ≤ L) = false := decide_eq_false (by omega)
              have d0 : decide ((0 : Int) < (i : Int)) = true := decide_eq_true (by omega)
              have ei : IntKind.i64.wrap ((i : Int) - 1) = ((i - 1 : Nat) : Int) := by rw [IntKind.wrap_i64]; omega
              have ei2 : (i : Int) - 1 = ((i - 1 : Nat) : Int) := by omega
              have hi1 : i - 1 < M := by omega
              go_wp2_with fail
              refine (at_i O8.out.R K).mono ?_
              rintro e w9 ⟨rfl, rfl⟩
              rw [hAt.out, hHas.out]
              go_wp2
              go_round
              case rel => exact ⟨i + 1, by go_num, hlH⟩
              case measure => have := hlH.out; simp [intOf]; omega
            · obtain rfl : i = 0 := by omega
              clear h0 hprev
              simp only [Nat.add_zero] at cP cT
              go_wp2_with fail
              refine (at_i O8.out.R K).mono ?_
              rintro e w9 ⟨rfl, rfl⟩
              rw [hAt.out, hHas.out]
              go_wp2
              go_round
              case rel => exact ⟨1, by rfl, hlH⟩
              case measure => have := hlH.out; simp [intOf]; omega
          · obtain rfl : M = i := by have := hi.out; omega
            clear hlt hi
            have BW3 := Lib.hid (show Below W.heap.size W w8.drew from ⟨BW2.out.os, BW2.out.tape, BW2.out.output, BW2.out.size, BW2.out.block⟩)
            have O9 := Lib.hid O8.out.drew
            clear k8 k9
            have k8 := (KC.out _ BW2.out).1
            go_wp2_with fail
            refine seq_start [(0, true), (1, true), (2, true), (3, false), (4, true), (5, true)] (fun w' => w'.cell? ⟨wr.heap.size + 2, 0, none⟩ = some (.slice AP M kP)) (by kernel_rfl) (by kernel_rfl) rfl (by kernel_rfl) (KC.out _ BW3.out).1 ?_
            clear k8
            generalize w8.drew = w9 at *
            iterate 3 (refine seq_read rfl (by first | rfl | (go_simp; done)) (fun w' hw => by go_simp; with_reducible rfl) ?_; try simp only [Act.put, List.setIfInBounds_toArray, List.set_cons_zero, List.set_cons_succ])
            refine seq_call rfl (fun K hK1 => ?_)
            go_simp
            refine (countR_i O9.out.R).mono ?_
            rintro e w10 ⟨rfl, rfl⟩
            rw [← hcnt.out]
            refine hK1.out _ _ (KC.out _ BW3.out).1 ?_
            clear hK1 K
            try simp only [Act.put, List.setIfInBounds_toArray, List.set_cons_zero, List.set_cons_succ]
            iterate 2 (refine seq_read rfl (by first | rfl | (go_simp; done)) (fun w' hw => by go_simp; with_reducible rfl) ?_; try simp only [Act.put, List.setIfInBounds_toArray, List.set_cons_zero, List.set_cons_succ])
            refine seq_done ?_
            go_wp2
            have hD0 := hDs.out
            have hlw := O.out.B.size
            refine ⟨by simp, .inl ⟨_, _, rfl, run_takeDeferred (hKW.out _ BW3.out), ?_⟩⟩
            exact ⟨_, results_tmp rfl _ _ _, rfl, O9.out.B.trans (belowK_b (w := wr) hlw _ D _ _ (by omega) (hKW.out _ BW3.out) rfl rfl)⟩
      case stop =>
        rintro D c pre W _ _ h _
        exact h.elim
end Go.Proofs.YtlkhpkdndmlnaaaDoor
