/- The document's answer on plans: End. No condition. -/
import Derived.Test.YtnlbcgonegeofaaPlR
import Derived.Deep.DeepCutAuto
import Derived.Deep.CutBlock
import Derived.BigQuiet
import Derived.Deep.QuietTactic
namespace Go.Proofs.Ytnlbcgonegeofaa
open Go.RowKit
set_option linter.unusedVariables false
set_option linter.unusedSimpArgs false
set_option maxRecDepth 100000

theorem newBel (w : World) {w2 : World} {cs : Array Value} {t : TypeId} (F : Below (w.alloc (.cells cs t)).heap.size (w.alloc (.cells cs t)) w2) (j : Nat) (v : Value) (hv : cs[j]? = some v) : Cel w2 w.heap.size j v :=
  (Cel.new w cs t j v hv).fr (Fr.of_below (S := fun _ _ => False) F (Nat.le_refl _)) id
theorem sum_c' (w : World) {a b h l : Nat} (ha : a < U64) (hb : b < U64) (e1 : (a + b) / U64 = h) (e2 : (a + b) % U64 = l) : Calls Try.prog 22 #[.int .u64 a, .int .u64 b] w fun e w' => e = .returned (.agg #[.int .u64 h, .int .u64 l]) ∧ Below w.heap.size w w' := by
  subst e1; subst e2; exact sum_c w ha hb
theorem belS {w a : World} (h : Below w.heap.size w a) {k o : Nat} (hk : w.heap.size ≤ k) (v : Value) : Below w.heap.size w (a.setCell ⟨k, o, none⟩ v) := h.setCell (p := ⟨k, o, none⟩) hk v
theorem set2 {w : World} {b : Nat} {u0 u1 : Value} (h0 : Cel w b 0 u0) (h1 : Cel w b 1 u1) (x y : Value) : ((w.setCell ⟨b, 0, none⟩ x).setCell ⟨b, 1, none⟩ y).cell? ⟨b, 0, none⟩ = some x ∧ ((w.setCell ⟨b, 0, none⟩ x).setCell ⟨b, 1, none⟩ y).cell? ⟨b, 1, none⟩ = some y :=
  ⟨((h0.same x).other (.inr (by decide)) y).1, ((h1.other (.inr (by decide)) x).same y).1⟩
theorem end_hi {w : World} {c : Nat} {A : Option Addr} {xs : List Sl} {i hi lo : Nat} (h : 0 < hi) :
    Calls Try.prog 21 #[.slice A xs.length c, .int .i64 i, .agg #[.int .u64 hi, .int .u64 lo]] w fun e w' => e = .returned (.tuple #[.int .u64 0, .int .u64 0, .bool false]) ∧ Below w.heap.size w w' := by
  obtain ⟨d1, d2⟩ : decide ((0 : Int) < (hi : Int)) = true ∧ decide (0 < hi) = true := ⟨decide_eq_true (by omega), decide_eq_true h⟩
  have HB := Lib.hid (Below.alloc (Below.refl w.heap.size w) (Nat.le_refl _) (.cells #[.int .u64 hi, .int .u64 lo] 57))
  clear h
  go_enter Try.func21, Try.ntmps21
  go_wp2
  refine bodyPost_ret (results_tmp3 rfl _ _ _) rfl ?_
  exact ⟨rfl, HB.out⟩

set_option maxHeartbeats 2000000 in
theorem end_lo {w : World} {c : Nat} {A : Option Addr} {xs : List Sl} (g : Gd xs) (hr : SlA w A xs) {i lo : Nat} (hk : i < xs.length) (hlo : lo < U64) :
    Calls Try.prog 21 #[.slice A xs.length c, .int .i64 i, .agg #[.int .u64 0, .int .u64 lo]] w fun e w' => e = .returned (.tuple (if lo + pre xs (i + 1) < U64 then #[.int .u64 ((lo + pre xs i : Nat) : Int), .int .u64 ((lo + pre xs (i + 1) : Nat) : Int), .bool true] else #[.int .u64 0, .int .u64 0, .bool false])) ∧ Below w.heap.size w w' := by
  obtain ⟨R, hR⟩ : ∃ R, R = if lo + pre xs (i + 1) < U64 then #[Value.int .u64 ((lo + pre xs i : Nat) : Int), .int .u64 ((lo + pre xs (i + 1) : Nat) : Int), .bool true] else #[.int .u64 0, .int .u64 0, .bool false] := ⟨_, rfl⟩
  rw [← hR]
  replace hR := Lib.hid hR
  have H := Lib.hid hr
  have G := Lib.hid g
  have hK := Lib.hid hk
  have hL := Lib.hid hlo
  have hl := Lib.hid g.small
  have hb1 : Hid (pre xs i < U64) := Lib.hid (by have := pre_bd g (Nat.le_of_lt hk); have := g.small; unfold U64; omega)
  have hb2 : Hid (pre xs (i + 1) < U64) := Lib.hid (by have := pre_bd g (show i + 1 ≤ xs.length from hk); have := g.small; unfold U64; omega)
  have hlt := Lib.hid (pre_lt g hk)
  have HB := Lib.hid (Below.alloc (Below.refl w.heap.size w) (Nat.le_refl _) (.cells #[.int .u64 0, .int .u64 lo] 57))
  have e2 : IntKind.i64.wrap ((i : Int) + 1) = ((i + 1 : Nat) : Int) := by rw [IntKind.wrap_i64]; have := g.small; omega
  have key1 : Hid (∀ X, Below w.heap.size w X → SlA X A xs) := Lib.hid fun X hX => hr.below hX
  obtain ⟨h1, hh1⟩ : ∃ h, (lo + pre xs i) / U64 = h := ⟨_, rfl⟩
  obtain ⟨l1, hl1⟩ : ∃ l, (lo + pre xs i) % U64 = l := ⟨_, rfl⟩
  obtain ⟨h2, hh2⟩ : ∃ h, (lo + pre xs (i + 1)) / U64 = h := ⟨_, rfl⟩
  obtain ⟨l2, hl2⟩ : ∃ l, (lo + pre xs (i + 1)) % U64 = l := ⟨_, rfl⟩
  replace hh1 := Lib.hid hh1; replace hl1 := Lib.hid hl1; replace hh2 := Lib.hid hh2; replace hl2 := Lib.hid hl2
  have hs1 : (w.alloc (.cells #[.int .u64 0, .int .u64 lo] 57)).heap.size = w.heap.size + 1 := by simp
  have c0 := (Cel.new w #[.int .u64 0, .int .u64 lo] 57 0 (.int .u64 0) rfl).1
  have c1 := (Cel.new w #[.int .u64 0, .int .u64 lo] 57 1 (.int .u64 lo) rfl).1
  clear hr g hk hlo
  go_enter Try.func21, Try.ntmps21
  go_upto_region 3 with fail
  replace hs1 := Lib.hid hs1
  obtain ⟨B, hB⟩ : ∃ B, B = w.heap.size := ⟨_, rfl⟩
  rw [← hB] at c0 c1
  generalize w.alloc (.cells #[.int .u64 0, .int .u64 lo] 57) = W at *
  rw [← hB]
  have hBs : Hid (B < W.heap.size) := Lib.hid (by have := hs1.out; omega)
  replace hB := Lib.hid hB
  have key2 : Hid (∀ X, Below W.heap.size W X → X.cell? ⟨B, 1, none⟩ = some (.int .u64 lo)) := Lib.hid fun X hX => (hX.cell (p := ⟨B, 1, none⟩) hBs.out).trans c1
  have HR1 := Lib.hid (Below.refl W.heap.size W)
  go_cut [9] (fun v wx => ∃ B9 : Nat, v = .pointer (some ⟨B9, 0, none⟩) ∧ Hid (Below W.heap.size W wx) ∧ Hid (wx.cell? ⟨B9, 0, none⟩ = some (.int .u64 h1) ∧ wx.cell? ⟨B9, 1, none⟩ = some (.int .u64 l1)))
  case first =>
    go_region_held3 (fun w' => w'.cell? ⟨B, 1, none⟩ = some (.int .u64 lo)) (first | exact key2.out _ (by repeat (first | exact HR1.out | exact HX2 | refine belA ?_ _ | refine belD ?_ | refine belN ?_ _ | refine belS ?_ (Nat.le_refl _) _))) (first
      | (go_at_call 15; refine (from_c G.out (key1.out _ (HB.out.trans ((by repeat (first | exact HR1.out | exact HX2 | refine belA ?_ _ | refine belD ?_ | refine belN ?_ _ | refine belS ?_ (Nat.le_refl _) _) : Below W.heap.size W _).mono HB.out.size))) (Nat.le_of_lt hK.out)).mono ?_; rintro e w2 ⟨rfl, rfl⟩)
      | (go_at_call 22; refine (sum_c' _ hL.out hb1.out hh1.out hl1.out).mono ?_; rintro e w2 ⟨rfl, F⟩; have HX2 : Below W.heap.size W w2 := belT (by repeat (first | exact HR1.out | refine belA ?_ _ | refine belD ?_ | refine belN ?_ _ | refine belS ?_ (Nat.le_refl _) _)) F; have q0 : Cel w2 W.heap.size 0 (.int .u64 0) := newBel W.drew F 0 _ rfl; have q1 : Cel w2 W.heap.size 1 (.int .u64 0) := newBel W.drew F 1 _ rfl; obtain ⟨q0a, q0b⟩ := q0; obtain ⟨q1a, q1b⟩ := q1; replace F := Lib.hid F)
      | (go_at_call 22; refine (sum_c' _ hL.out hb1.out hh1.out hl1.out).mono ?_; rintro e w2 ⟨rfl, F⟩; have HX2 : Below W.heap.size W w2 := belT (by repeat (first | exact HR1.out | refine belA ?_ _ | refine belD ?_ | refine belN ?_ _ | refine belS ?_ (Nat.le_refl _) _)) F; replace F := Lib.hid F)
      | fail)
    all_goals (go_wp2_with fail; go_meet)
    all_goals first
      | exact ⟨_, rfl, Lib.hid (belA HX2 _), Lib.hid ⟨(Cel.new w2 #[.int .u64 h1, .int .u64 l1] _ 0 (.int .u64 h1) rfl).1, (Cel.new w2 #[.int .u64 h1, .int .u64 l1] _ 1 (.int .u64 l1) rfl).1⟩⟩
      | exact ⟨_, rfl, Lib.hid (belS (belS HX2 (Nat.le_refl _) _) (Nat.le_refl _) _), Lib.hid (set2 ⟨q0a, q0b⟩ ⟨q1a, q1b⟩ _ _)⟩
  case rest =>
    obtain ⟨B9, rfl, H2, H3⟩ := hcut
    have c1' := key2.out _ H2.out
    have HB2 := Lib.hid (belT HB.out H2.out)
    have hBs2 : Hid (B < wc.heap.size) := Lib.hid (by have := hBs.out; have := H2.out.size; omega)
    clear HB key2 c0 c1 HR1 H2 hBs hs1
    generalize wc = V at *
    have key2 : Hid (∀ X, Below V.heap.size V X → X.cell? ⟨B, 1, none⟩ = some (.int .u64 lo)) := Lib.hid fun X hX => (hX.cell (p := ⟨B, 1, none⟩) hBs2.out).trans c1'
    have HR1 := Lib.hid (Below.refl V.heap.size V)
    go_upto_region 4 with fail
    go_cut [10] (fun v wx => ∃ B10 : Nat, v = .pointer (some ⟨B10, 0, none⟩) ∧ Hid (Below V.heap.size V wx) ∧ Hid (wx.cell? ⟨B10, 0, none⟩ = some (.int .u64 h2) ∧ wx.cell? ⟨B10, 1, none⟩ = some (.int .u64 l2)))
    case first =>
      go_region_held3 (fun w' => w'.cell? ⟨B, 1, none⟩ = some (.int .u64 lo)) (first | exact key2.out _ (by repeat (first | exact HR1.out | exact HX2 | refine belA ?_ _ | refine belD ?_ | refine belN ?_ _ | refine belS ?_ (Nat.le_refl _) _))) (first
        | (go_at_call 15; refine (from_c G.out (key1.out _ (HB2.out.trans ((by repeat (first | exact HR1.out | exact HX2 | refine belA ?_ _ | refine belD ?_ | refine belN ?_ _ | refine belS ?_ (Nat.le_refl _) _) : Below V.heap.size V _).mono HB2.out.size))) hK.out).mono ?_; rintro e w2 ⟨rfl, rfl⟩)
        | (go_at_call 22; refine (sum_c' _ hL.out hb2.out hh2.out hl2.out).mono ?_; rintro e w2 ⟨rfl, F⟩; have HX2 : Below V.heap.size V w2 := belT (by repeat (first | exact HR1.out | refine belA ?_ _ | refine belD ?_ | refine belN ?_ _ | refine belS ?_ (Nat.le_refl _) _)) F; have q0 : Cel w2 V.heap.size 0 (.int .u64 0) := newBel V.drew F 0 _ rfl; have q1 : Cel w2 V.heap.size 1 (.int .u64 0) := newBel V.drew F 1 _ rfl; obtain ⟨q0a, q0b⟩ := q0; obtain ⟨q1a, q1b⟩ := q1; replace F := Lib.hid F)
        | (go_at_call 22; refine (sum_c' _ hL.out hb2.out hh2.out hl2.out).mono ?_; rintro e w2 ⟨rfl, F⟩; have HX2 : Below V.heap.size V w2 := belT (by repeat (first | exact HR1.out | refine belA ?_ _ | refine belD ?_ | refine belN ?_ _ | refine belS ?_ (Nat.le_refl _) _)) F; replace F := Lib.hid F)
        | fail)
      all_goals (go_wp2_with fail; go_meet)
      all_goals first
        | exact ⟨_, rfl, Lib.hid (belA HX2 _), Lib.hid ⟨(Cel.new w2 #[.int .u64 h2, .int .u64 l2] _ 0 (.int .u64 h2) rfl).1, (Cel.new w2 #[.int .u64 h2, .int .u64 l2] _ 1 (.int .u64 l2) rfl).1⟩⟩
        | exact ⟨_, rfl, Lib.hid (belS (belS HX2 (Nat.le_refl _) _) (Nat.le_refl _) _), Lib.hid (set2 ⟨q0a, q0b⟩ ⟨q1a, q1b⟩ _ _)⟩
    case rest =>
      obtain ⟨B10, rfl, H4, H5⟩ := hcut
      obtain ⟨f0, f1⟩ := H3.out
      obtain ⟨g0, g1⟩ := H5.out
      replace f0 := (H4.out.cell (p := ⟨B9, 0, none⟩) (World.block_lt_of_cell? V _ f0)).trans f0
      replace f1 := (H4.out.cell (p := ⟨B9, 1, none⟩) (World.block_lt_of_cell? V _ f1)).trans f1
      have HB3 := Lib.hid (belT HB2.out H4.out)
      have hs := hl.out; have hL2 := hL.out; have hlt2 := hlt.out; have hh1' := hh1.out; have hl1' := hl1.out; have hh2' := hh2.out; have hl2' := hl2.out
      clear HB2 key2 HR1 H3 H4 H5 c1' hBs2
      generalize wc = V2 at *
      by_cases hfin : lo + pre xs (i + 1) < U64
      · have z1 : h1 = 0 := by unfold U64 at *; omega
        have z2 : h2 = 0 := by unfold U64 at *; omega
        have z3 : l1 = lo + pre xs i := by unfold U64 at *; omega
        have z4 : l2 = lo + pre xs (i + 1) := by unfold U64 at *; omega
        have hR2 := hR.out
        rw [if_pos hfin] at hR2
        replace hR2 := Lib.hid hR2
        subst z1; subst z2
        replace z3 := Lib.hid z3; replace z4 := Lib.hid z4
        clear hs hL2 hlt2 hh1' hl1' hh2' hl2' hfin hb1 hb2 hh1 hl1 hh2 hl2 hL
        go_wp2_with fail
        go_quiet (fail)
        go_wp2
        refine bodyPost_ret (results_tmp3 rfl _ _ _) rfl ?_
        exact ⟨by rw [hR2.out, ← z3.out, ← z4.out]; rfl, belN HB3.out _⟩
      · have hR2 := hR.out
        rw [if_neg hfin] at hR2
        replace hR2 := Lib.hid hR2
        have d2 : decide (0 < h2) = true := decide_eq_true (by unfold U64 at *; omega)
        have d2i : decide ((0 : Int) < (h2 : Int)) = true := decide_eq_true (by unfold U64 at *; omega)
        clear hs hL2 hlt2 hh1' hl1' hh2' hl2' hfin hb1 hb2 hh1 hl1 hh2 hl2 hL
        by_cases hz : 0 < h1
        · have d1 : decide (0 < h1) = true := decide_eq_true hz
          have d1i : decide ((0 : Int) < (h1 : Int)) = true := decide_eq_true (by omega)
          clear hz
          go_wp2
          refine bodyPost_ret (results_tmp3 rfl _ _ _) rfl ?_
          exact ⟨by rw [hR2.out]; rfl, HB3.out⟩
        · have d1 : decide (0 < h1) = false := decide_eq_false hz
          have d1i : decide ((0 : Int) < (h1 : Int)) = false := decide_eq_false (by omega)
          clear hz
          go_wp2
          refine bodyPost_ret (results_tmp3 rfl _ _ _) rfl ?_
          exact ⟨by rw [hR2.out]; rfl, HB3.out⟩
end Go.Proofs.Ytnlbcgonegeofaa
