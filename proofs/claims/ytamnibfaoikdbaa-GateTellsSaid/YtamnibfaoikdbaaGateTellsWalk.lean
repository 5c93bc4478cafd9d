/- GateTells: whatever is told is wanted, by the handle that watches; for every input. No condition. -/
import Derived.Test.YtamnibfaoikdbaaGateKeepsWalk
import Derived.Deep.RegionHeld3
namespace Go.Proofs.Ytamnibfaoikdbaa
open Go.RowKit Go.ChangeShapes Go.WideShapes Go.ChangeAt
set_option linter.unusedVariables false
set_option linter.unusedSimpArgs false

structure OpG where
  kind : Int
  mask : Int
  handle : Int
  mode : Int
deriving DecidableEq, Inhabited
def OpG.cells (z : OpG) : List Value := [.int .i64 z.kind, .int .i64 z.mask, .int .u64 z.handle, .int .i64 z.mode]
def OpG.good (z : OpG) : Prop := (Lit.int .i64 z.kind).wf = true ∧ (Lit.int .i64 z.mask).wf = true ∧ (Lit.int .u64 z.handle).wf = true ∧ (Lit.int .i64 z.mode).wf = true
def OpG.val (z : OpG) : Value := .agg #[.int .i64 z.kind, .int .i64 z.mask, .int .u64 z.handle, .int .i64 z.mode]
theorem el_OpG {H : Type} {enc : TypeId × Value → H} {w : World} : ∀ n cs x, DataW.trod enc Try.prog w 0 (fun _ => true) true n 39 cs = some x → ∃ z : OpG, cs = z.cells ∧ z.good := by
  intro n cs x h
  have hl := (struct_cells Try.underlying39 h).1
  rw [show Try.prog.cellsOf 39 = 4 by kernel_rfl] at hl
  obtain ⟨v0, v1, v2, v3, rfl⟩ : ∃ v0 v1 v2 v3 : Value, cs = [v0, v1, v2, v3] := by
    match cs, hl with
    | [v0, v1, v2, v3], _ => exact ⟨v0, v1, v2, v3, rfl⟩
  obtain ⟨-, n, f⟩ := struct_cells Try.underlying39 h
  obtain ⟨y_0, h_0⟩ := f 0 _ rfl
  replace h_0 : DataW.trod enc Try.prog w 0 (fun _ => true) true n 3 [v0] = some y_0 := h_0
  obtain ⟨a0, e0, g0⟩ := (el_int Try.underlying3) _ _ _ h_0
  obtain rfl : v0 = .int .i64 a0 := by simpa using e0
  obtain ⟨y_1, h_1⟩ := f 1 _ rfl
  replace h_1 : DataW.trod enc Try.prog w 0 (fun _ => true) true n 3 [v1] = some y_1 := h_1
  obtain ⟨a1, e1, g1⟩ := (el_int Try.underlying3) _ _ _ h_1
  obtain rfl : v1 = .int .i64 a1 := by simpa using e1
  obtain ⟨y_2, h_2⟩ := f 2 _ rfl
  replace h_2 : DataW.trod enc Try.prog w 0 (fun _ => true) true n 24 [v2] = some y_2 := h_2
  obtain ⟨a2, e2, g2⟩ := (el_int Try.underlying24) _ _ _ h_2
  obtain rfl : v2 = .int .u64 a2 := by simpa using e2
  obtain ⟨y_3, h_3⟩ := f 3 _ rfl
  replace h_3 : DataW.trod enc Try.prog w 0 (fun _ => true) true n 3 [v3] = some y_3 := h_3
  obtain ⟨a3, e3, g3⟩ := (el_int Try.underlying3) _ _ _ h_3
  obtain rfl : v3 = .int .i64 a3 := by simpa using e3
  exact ⟨⟨a0, a1, a2, a3⟩, rfl, ⟨g0, g1, g2, g3⟩⟩

/-- What holds of a gate at all times. -/
structure GInv (g p : G) : Prop where
  op : p.op = g.op
  rd : p.ready = g.ready
  sub : bits .andNot .i64 g.told g.want = 0
  shut : g.op = false → g.want = 0 ∧ g.told = 0

theorem andNot_self (a b : Int) : bits .andNot .i64 (bits .and .i64 a b) b = 0 := by
  rw [andNot_bv, bv_and]
  have : bv a &&& bv b &&& ~~~bv b = 0#64 := by
    ext i hi
    simp <;> (cases (bv a)[i] <;> cases (bv b)[i] <;> simp)
  rw [this]; rfl
theorem andNot_left (a b : Int) : bits .andNot .i64 (bits .and .i64 a b) a = 0 := by
  rw [andNot_bv, bv_and]
  have : bv a &&& bv b &&& ~~~bv a = 0#64 := by
    ext i hi
    simp <;> (cases (bv a)[i] <;> cases (bv b)[i] <;> simp)
  rw [this]; rfl
theorem zero_andNot (b : Int) : bits .andNot .i64 0 b = 0 := by
  rw [andNot_bv, bv_zero, BitVec.zero_and]; rfl
theorem toInt_zero {v : BitVec 64} (h : v.toInt = 0) : v = 0#64 := by
  have := congrArg bv h
  rw [bv_toInt] at this
  exact this
theorem or_sub {t c w : Int} (h : bits .andNot .i64 t w = 0) : bits .andNot .i64 (bits .or .i64 t (bits .and .i64 c w)) w = 0 := by
  rw [andNot_bv] at h
  have h0 := toInt_zero h
  rw [andNot_bv, bv_or, bv_and]
  have : (bv t ||| bv c &&& bv w) &&& ~~~bv w = 0#64 := by
    ext i hi
    have := congrArg (fun v : BitVec 64 => v[i]) h0
    simp at this ⊢
    revert this
    cases (bv t)[i] <;> cases (bv c)[i] <;> cases (bv w)[i] <;> simp
  rw [this]; rfl

theorem inv0 : GInv noG noG := ⟨rfl, rfl, by decide +kernel, fun _ => ⟨rfl, rfl⟩⟩
theorem inv_open {g p : G} (h : GInv g p) : GInv (openG g) (openG p) := by
  unfold openG
  cases ho : g.op
  · rw [h.op, ho]; exact ⟨rfl, rfl, by show bits .andNot .i64 0 0 = 0; decide +kernel, fun h => by cases h⟩
  · rw [h.op, ho]; exact h
theorem inv_close {g p : G} (h : GInv g p) : GInv noG noG := inv0
theorem inv_meet {g p : G} (h : GInv g p) (m : Int) : GInv (meetG g m) (meetG p m) := by
  unfold meetG
  cases ho : g.op
  · rw [h.op, ho]; exact h
  · rw [h.op, ho]
    simp only [if_true]
    refine ⟨rfl, ?_, or_sub h.sub, fun hh => by cases hh⟩
    show bits .or .i64 p.ready _ = bits .or .i64 g.ready _
    rw [h.rd]
theorem inv_watch {g p : G} (h : GInv g p) (hd wt md : Int) : GInv (watchG g hd wt md) p := by
  unfold watchG
  by_cases hw : watchB g wt md = true
  · rw [if_pos hw]
    refine ⟨h.op, h.rd, andNot_self _ _, fun hh => ?_⟩
    have : g.op = true := by unfold watchB at hw; simp at hw; exact hw.1.1.1.1
    rw [this] at hh; cases hh
  · rw [if_neg hw]; exact h
theorem inv_unwatch {g p : G} (h : GInv g p) : GInv (unwatchG g) p := ⟨h.op, h.rd, by show bits .andNot .i64 0 0 = 0; decide +kernel, fun _ => ⟨rfl, rfl⟩⟩
theorem inv_ack {g p : G} (h : GInv g p) (m : Int) : GInv (ackG g m) (ackG p m) := by
  refine ⟨h.op, ?_, h.sub, h.shut⟩
  show bits .andNot .i64 p.ready m = bits .andNot .i64 g.ready m
  rw [h.rd]
theorem inv_tell {g p : G} (h : GInv g p) : GInv (tellG g) p := by
  unfold tellG
  split
  · refine ⟨h.op, h.rd, andNot_self _ _, fun hh => ⟨(h.shut hh).1, ?_⟩⟩
    show bits .and .i64 g.ready g.want = 0
    rw [(h.shut hh).1, and_zero]
  · split
    · exact ⟨h.op, h.rd, zero_andNot _, fun hh => ⟨(h.shut hh).1, rfl⟩⟩
    · split
      · exact h
      · exact inv_unwatch h
theorem mask_want {g p : G} (h : GInv g p) : bits .andNot .i64 (maskG g) g.want = 0 := by
  unfold maskG
  split
  · exact andNot_self _ _
  · exact h.sub
theorem mask_open {g p : G} (h : GInv g p) (hm : ¬ maskG g = 0) : g.op = true := by
  cases ho : g.op
  · exfalso; apply hm
    have := h.shut ho
    unfold maskG
    rw [this.1, this.2]
    split
    · exact and_zero _
    · rfl
  · rfl
theorem mask_ready {g p : G} (hm : g.mode = 0) : bits .andNot .i64 (maskG g) g.ready = 0 := by
  unfold maskG
  rw [if_pos hm]
  exact andNot_left _ _

set_option maxHeartbeats 8000000 in
set_option maxRecDepth 100000 in
theorem tells_walk (A : Option Addr) (c : Nat) (xs : List OpG) (w : World) (hr : RowAt OpG.cells 4 w A xs) (hsz : xs.length * 32 ≤ 140737488351232) :
    Calls Try.prog 5 #[.slice A xs.length c] w fun e w' => e = .returned (.bool true) ∧ Below w.heap.size w w' := by
  by_cases hbig : 40 < xs.length
  · have hb1 : decide ((40 : Int) < (xs.length : Int)) = true := by simp; omega
    go_enter Try.func5, Try.ntmps5
    go_wp2_with fail
    refine (alive_c w).mono ?_
    rintro e w1 ⟨rfl, hB1⟩
    have HB1 := Lib.hid hB1
    clear hB1
    go_wp2
    go_ret
    exact ⟨rfl, HB1.out⟩
  · have hb1 : decide ((40 : Int) < (xs.length : Int)) = false := by simp; omega
    have hf0 := fieldLook0
    have hf1 := fieldLook1
    go_enter Try.func5, Try.ntmps5
    go_wp2_with fail
    refine (alive_c w).mono ?_
    rintro e w1 ⟨rfl, hB1⟩
    have HB1 := Lib.hid hB1
    clear hB1
    go_wp2_with fail
    have hge := HB1.out.size
    have Ga := (GC.new w1 26).alloc (.cells #[.bool false, .int .i64 0, .int .i64 0, .int .u64 0, .int .i64 0, .int .i64 0, .int .i64 0] 26)
    have Gb := GC.new (w1.alloc (.cells #[.bool false, .int .i64 0, .int .i64 0, .int .u64 0, .int .i64 0, .int .i64 0, .int .i64 0] 26)) 26
    have HB2 := Lib.hid ((HB1.out.alloc hge (.cells #[.bool false, .int .i64 0, .int .i64 0, .int .u64 0, .int .i64 0, .int .i64 0, .int .i64 0] 26)).alloc (by simp; omega) (.cells #[.bool false, .int .i64 0, .int .i64 0, .int .u64 0, .int .i64 0, .int .i64 0, .int .i64 0] 26))
    have hlt2 : w1.heap.size + 1 < ((w1.alloc (.cells #[.bool false, .int .i64 0, .int .i64 0, .int .u64 0, .int .i64 0, .int .i64 0, .int .i64 0] 26)).alloc (.cells #[.bool false, .int .i64 0, .int .i64 0, .int .u64 0, .int .i64 0, .int .i64 0, .int .i64 0] 26)).heap.size := by simp
    simp only [World.size_alloc] at Gb
    clear HB1
    generalize (w1.alloc (.cells #[.bool false, .int .i64 0, .int .i64 0, .int .u64 0, .int .i64 0, .int .i64 0, .int .i64 0] 26)).alloc (.cells #[.bool false, .int .i64 0, .int .i64 0, .int .u64 0, .int .i64 0, .int .i64 0, .int .i64 0] 26) = w2 at *
    generalize w1.heap.size = B at *
    go_loopw [17] (fun i wr => ∃ (k : Nat) (g p : G), k ≤ xs.length ∧ i = .int .i64 k ∧ GInv g p ∧ GC wr B 0 g ∧ GC wr (B + 1) 0 p ∧ Hid (Below w.heap.size w wr) ∧ B + 1 < wr.heap.size) (fun i _ => xs.length - (intOf i).toNat)
    case atStart => exact ⟨0, noG, noG, Nat.zero_le _, rfl, inv0, Ga, Gb, HB2, hlt2⟩
    case round =>
      obtain ⟨k, g, p, hk, rfl, hI, ga, gb, HB, hlw⟩ := hrel
      clear Ga Gb HB2 hlt2
      by_cases hlt : k < xs.length
      · obtain ⟨b, off, rfl, hbl, hc⟩ := hr k hlt
        have hz0 := (HB.out.cell (p := ⟨b, off + k * 4 + 0, none⟩) hbl).trans (hc 0 _ rfl)
        have hz1 := (HB.out.cell (p := ⟨b, off + k * 4 + 1, none⟩) hbl).trans (hc 1 _ rfl)
        have hz2 := (HB.out.cell (p := ⟨b, off + k * 4 + 2, none⟩) hbl).trans (hc 2 _ rfl)
        have hz3 := (HB.out.cell (p := ⟨b, off + k * 4 + 3, none⟩) hbl).trans (hc 3 _ rfl)
        rw [Nat.add_zero] at hz0
        generalize xs[k] = z at *
        clear hc hr
        have ga1 := ga.alloc (.cells #[.int .i64 z.kind, .int .i64 z.mask, .int .u64 z.handle, .int .i64 z.mode] 39)
        have gb1 := gb.alloc (.cells #[.int .i64 z.kind, .int .i64 z.mask, .int .u64 z.handle, .int .i64 z.mode] 39)
        have zb1 : Blk (wr.alloc (.cells #[.int .i64 z.kind, .int .i64 z.mask, .int .u64 z.handle, .int .i64 z.mode] 39)) wr.heap.size z.cells := Blk.new wr z.cells 39
        have HB1 := Lib.hid (HB.out.alloc HB.out.size (.cells #[.int .i64 z.kind, .int .i64 z.mask, .int .u64 z.handle, .int .i64 z.mode] 39))
        have hs1 : wr.heap.size < (wr.alloc (.cells #[.int .i64 z.kind, .int .i64 z.mask, .int .u64 z.handle, .int .i64 z.mode] 39)).heap.size := by simp
        have hdec : ((z.kind == 0) = true ∨ (z.kind == 0) = false) := by cases (z.kind == 0) <;> simp
        clear ga gb HB hdec
        go_wp2_with fail
        clear hz0 hz1 hz2 hz3
        generalize wr.alloc (.cells #[.int .i64 z.kind, .int .i64 z.mask, .int .u64 z.handle, .int .i64 z.mode] 39) = wz at *
        generalize wr.heap.size = Z at *
        refine (look_c ga1).mono ?_
        rintro e w3 ⟨rfl, F3⟩
        have ga2 := (ga1.fr F3 (fun _ _ _ h => h)).alloc (.cells #[.bool g.op, .int .i64 g.ready, .int .i64 g.late, .int .u64 g.handle, .int .i64 g.want, .int .i64 g.mode, .int .i64 g.told] 34)
        have gb2 := (gb1.fr F3 (fun _ _ _ h => h)).alloc (.cells #[.bool g.op, .int .i64 g.ready, .int .i64 g.late, .int .u64 g.handle, .int .i64 g.want, .int .i64 g.mode, .int .i64 g.told] 34)
        have zb3 := zb1.fr F3 (fun _ h => h)
        have zb2 := zb3.alloc (.cells #[.bool g.op, .int .i64 g.ready, .int .i64 g.late, .int .u64 g.handle, .int .i64 g.want, .int .i64 g.mode, .int .i64 g.told] 34)
        have lb2 : Blk (w3.alloc (.cells #[.bool g.op, .int .i64 g.ready, .int .i64 g.late, .int .u64 g.handle, .int .i64 g.want, .int .i64 g.mode, .int .i64 g.told] 34)) w3.heap.size [.bool g.op, .int .i64 g.ready, .int .i64 g.late, .int .u64 g.handle, .int .i64 g.want, .int .i64 g.mode, .int .i64 g.told] := Blk.new w3 _ 34
        have HB2 := Lib.hid ((HB1.out.trans (F3.below HB1.out.size (fun _ _ _ h => h))).alloc (Nat.le_trans HB1.out.size F3.size) (.cells #[.bool g.op, .int .i64 g.ready, .int .i64 g.late, .int .u64 g.handle, .int .i64 g.want, .int .i64 g.mode, .int .i64 g.told] 34))
        have hs2 : Z < w3.heap.size := Nat.lt_of_lt_of_le hs1 F3.size
        have hk0 : w3.cell? ⟨Z, 0, none⟩ = some (.int .i64 z.kind) := zb3.at 0 rfl
        have Kz0 := zb3
        clear F3 ga1 gb1 zb1 zb3 HB1 hs1
        unfold lookV
        have HB2s := Lib.hid HB2.out.size
        by_cases q0 : z.kind = 0
        · have b0 : (z.kind == 0) = true := beq_iff_eq.mpr q0
          have Q0 := Lib.hid q0; clear q0
          go_wp2_with fail
          clear hk0 Kz0
          generalize w3.alloc (.cells #[.bool g.op, .int .i64 g.ready, .int .i64 g.late, .int .u64 g.handle, .int .i64 g.want, .int .i64 g.mode, .int .i64 g.told] 34) = w4 at *
          generalize w3.heap.size = Lb at *
          refine (open_c ga2).mono ?_
          rintro e w4 ⟨rfl, Ka4, F4⟩
          have HB4 := below_gate HB2 F4 (Nat.le_refl _) (by omega)
          have Kb4 := gb2.fr F4 (fun o _ _ hs => by have := hs.1; omega)
          have Kz4 := zb2.fr F4 (fun o hs => by have := hs.1; omega)
          have Kl4 := lb2.fr F4 (fun o hs => by have := hs.1; omega)
          clear F4 ga2 gb2 zb2 lb2 HB2
          go_wp2_with fail
          refine (open_c Kb4).mono ?_
          rintro e w5 ⟨rfl, Kb5, F5⟩
          have HB5 := below_gate HB4 F5 (Nat.le_refl _) (by omega)
          have Ka5 := Ka4.fr F5 (fun o _ _ hs => by have := hs.1; omega)
          have Kz5 := Kz4.fr F5 (fun o hs => by have := hs.1; omega)
          have Kl5 := Kl4.fr F5 (fun o hs => by have := hs.1; omega)
          clear F5 Ka4 Kb4 Kz4 Kl4 HB4
          have hI2 := inv_open hI
          generalize openG g = gx at *
          generalize openG p = px at *
          have hrd := hI2.rd
          have hop := hI2.op
          clear Kl5
          go_wp2_with fail
          refine (look_c Ka5).mono ?_
          rintro e w6 ⟨rfl, F6⟩
          have HB6 := Lib.hid (HB5.out.trans (F6.below HB5.out.size (fun _ _ _ h => h)))
          have Ka6 := Ka5.fr F6 (fun _ _ _ h => h)
          have Kb6 := Kb5.fr F6 (fun _ _ _ h => h)
          have Kz6 := Kz5.fr F6 (fun _ h => h)
          clear F6 Ka5 Kb5 Kz5 HB5
          unfold lookV
          go_wp2_with fail
          refine (look_c Kb6).mono ?_
          rintro e w7 ⟨rfl, F7⟩
          have HB7 := Lib.hid (HB6.out.trans (F7.below HB6.out.size (fun _ _ _ h => h)))
          have Ka7 := Ka6.fr F7 (fun _ _ _ h => h)
          have Kb7 := Kb6.fr F7 (fun _ _ _ h => h)
          have Kz7 := Kz6.fr F7 (fun _ h => h)
          clear F7 Ka6 Kb6 Kz6 HB6
          unfold lookV
          go_wp2_with fail
          refine (look_c Ka7).mono ?_
          rintro e w8 ⟨rfl, F8⟩
          have HB8 := Lib.hid (HB7.out.trans (F8.below HB7.out.size (fun _ _ _ h => h)))
          have Ka8 := Ka7.fr F8 (fun _ _ _ h => h)
          have Kb8 := Kb7.fr F8 (fun _ _ _ h => h)
          have Kz8 := Kz7.fr F8 (fun _ h => h)
          clear F8 Ka7 Kb7 Kz7 HB7
          unfold lookV
          go_wp2_with fail
          refine (look_c Kb8).mono ?_
          rintro e w9 ⟨rfl, F9⟩
          have HB9 := Lib.hid (HB8.out.trans (F9.below HB8.out.size (fun _ _ _ h => h)))
          have Ka9 := Ka8.fr F9 (fun _ _ _ h => h)
          have Kb9 := Kb8.fr F9 (fun _ _ _ h => h)
          have Kz9 := Kz8.fr F9 (fun _ h => h)
          clear F9 Ka8 Kb8 Kz8 HB8
          unfold lookV
          have HI := Lib.hid hI2; have HGA := Lib.hid Ka9; have HGB := Lib.hid Kb9; have hszF := Kz9.1
          clear Ka9 Kb9 Kz9 hI hI2
          go_wp2
          go_roundw
          case rel => exact ⟨k + 1, gx, px, by omega, by go_num, HI.out, HGA.out, HGB.out, HB9, by omega⟩
          case measure => simp [intOf]; omega
        have b0 : (z.kind == 0) = false := beq_eq_false_iff_ne.mpr q0
        clear q0
        by_cases q1 : z.kind = 1
        · have b1 : (z.kind == 1) = true := beq_iff_eq.mpr q1
          have Q1 := Lib.hid q1; clear q1
          go_wp2_with fail
          clear hk0 Kz0
          generalize w3.alloc (.cells #[.bool g.op, .int .i64 g.ready, .int .i64 g.late, .int .u64 g.handle, .int .i64 g.want, .int .i64 g.mode, .int .i64 g.told] 34) = w4 at *
          generalize w3.heap.size = Lb at *
          refine (close_c ga2).mono ?_
          rintro e w10 ⟨rfl, Ka10, F10⟩
          have HB10 := below_gate HB2 F10 (Nat.le_refl _) (by omega)
          have Kb10 := gb2.fr F10 (fun o _ _ hs => by have := hs.1; omega)
          have Kz10 := zb2.fr F10 (fun o hs => by have := hs.1; omega)
          have Kl10 := lb2.fr F10 (fun o hs => by have := hs.1; omega)
          clear F10 ga2 gb2 zb2 lb2 HB2
          go_wp2_with fail
          refine (close_c Kb10).mono ?_
          rintro e w11 ⟨rfl, Kb11, F11⟩
          have HB11 := below_gate HB10 F11 (Nat.le_refl _) (by omega)
          have Ka11 := Ka10.fr F11 (fun o _ _ hs => by have := hs.1; omega)
          have Kz11 := Kz10.fr F11 (fun o hs => by have := hs.1; omega)
          have Kl11 := Kl10.fr F11 (fun o hs => by have := hs.1; omega)
          clear F11 Ka10 Kb10 Kz10 Kl10 HB10
          have hI2 := inv_close hI
          clear Kl11
          go_wp2_with fail
          refine (look_c Ka11).mono ?_
          rintro e w12 ⟨rfl, F12⟩
          have HB12 := Lib.hid (HB11.out.trans (F12.below HB11.out.size (fun _ _ _ h => h)))
          have Ka12 := Ka11.fr F12 (fun _ _ _ h => h)
          have Kb12 := Kb11.fr F12 (fun _ _ _ h => h)
          have Kz12 := Kz11.fr F12 (fun _ h => h)
          clear F12 Ka11 Kb11 Kz11 HB11
          unfold lookV
          go_wp2_with fail
          refine (look_c Kb12).mono ?_
          rintro e w13 ⟨rfl, F13⟩
          have HB13 := Lib.hid (HB12.out.trans (F13.below HB12.out.size (fun _ _ _ h => h)))
          have Ka13 := Ka12.fr F13 (fun _ _ _ h => h)
          have Kb13 := Kb12.fr F13 (fun _ _ _ h => h)
          have Kz13 := Kz12.fr F13 (fun _ h => h)
          clear F13 Ka12 Kb12 Kz12 HB12
          unfold lookV
          go_wp2_with fail
          refine (look_c Ka13).mono ?_
          rintro e w14 ⟨rfl, F14⟩
          have HB14 := Lib.hid (HB13.out.trans (F14.below HB13.out.size (fun _ _ _ h => h)))
          have Ka14 := Ka13.fr F14 (fun _ _ _ h => h)
          have Kb14 := Kb13.fr F14 (fun _ _ _ h => h)
          have Kz14 := Kz13.fr F14 (fun _ h => h)
          clear F14 Ka13 Kb13 Kz13 HB13
          unfold lookV
          go_wp2_with fail
          refine (look_c Kb14).mono ?_
          rintro e w15 ⟨rfl, F15⟩
          have HB15 := Lib.hid (HB14.out.trans (F15.below HB14.out.size (fun _ _ _ h => h)))
          have Ka15 := Ka14.fr F15 (fun _ _ _ h => h)
          have Kb15 := Kb14.fr F15 (fun _ _ _ h => h)
          have Kz15 := Kz14.fr F15 (fun _ h => h)
          clear F15 Ka14 Kb14 Kz14 HB14
          unfold lookV
          have HI := Lib.hid hI2; have HGA := Lib.hid Ka15; have HGB := Lib.hid Kb15; have hszF := Kz15.1
          clear Ka15 Kb15 Kz15 hI hI2
          go_wp2
          go_roundw
          case rel => exact ⟨k + 1, noG, noG, by omega, by go_num, HI.out, HGA.out, HGB.out, HB15, by omega⟩
          case measure => simp [intOf]; omega
        have b1 : (z.kind == 1) = false := beq_eq_false_iff_ne.mpr q1
        clear q1
        by_cases q3 : z.kind = 3
        · have b3 : (z.kind == 3) = true := beq_iff_eq.mpr q3
          have Q3 := Lib.hid q3; clear q3
          have hk1 : w3.cell? ⟨Z, 1, none⟩ = some (.int .i64 z.mask) := Kz0.at 1 rfl
          go_wp2_with fail
          clear hk1
          clear hk0 Kz0
          generalize w3.alloc (.cells #[.bool g.op, .int .i64 g.ready, .int .i64 g.late, .int .u64 g.handle, .int .i64 g.want, .int .i64 g.mode, .int .i64 g.told] 34) = w4 at *
          generalize w3.heap.size = Lb at *
          refine (meet_c ga2 z.mask).mono ?_
          rintro e w16 ⟨rfl, Ka16, F16⟩
          have HB16 := below_gate HB2 F16 (Nat.le_refl _) (by omega)
          have Kb16 := gb2.fr F16 (fun o _ _ hs => by have := hs.1; omega)
          have Kz16 := zb2.fr F16 (fun o hs => by have := hs.1; omega)
          have Kl16 := lb2.fr F16 (fun o hs => by have := hs.1; omega)
          clear F16 ga2 gb2 zb2 lb2 HB2
          have hk1 := Kz16.at 1 rfl; have hlz := Kz16.1
          go_wp2_with fail
          clear hk1 hlz
          refine (meet_c Kb16 z.mask).mono ?_
          rintro e w17 ⟨rfl, Kb17, F17⟩
          have HB17 := below_gate HB16 F17 (Nat.le_refl _) (by omega)
          have Ka17 := Ka16.fr F17 (fun o _ _ hs => by have := hs.1; omega)
          have Kz17 := Kz16.fr F17 (fun o hs => by have := hs.1; omega)
          have Kl17 := Kl16.fr F17 (fun o hs => by have := hs.1; omega)
          clear F17 Ka16 Kb16 Kz16 Kl16 HB16
          have hI2 := inv_meet hI z.mask
          generalize meetG g z.mask = gx at *
          generalize meetG p z.mask = px at *
          have hrd := hI2.rd
          have hop := hI2.op
          clear Kl17
          go_wp2_with fail
          refine (look_c Ka17).mono ?_
          rintro e w18 ⟨rfl, F18⟩
          have HB18 := Lib.hid (HB17.out.trans (F18.below HB17.out.size (fun _ _ _ h => h)))
          have Ka18 := Ka17.fr F18 (fun _ _ _ h => h)
          have Kb18 := Kb17.fr F18 (fun _ _ _ h => h)
          have Kz18 := Kz17.fr F18 (fun _ h => h)
          clear F18 Ka17 Kb17 Kz17 HB17
          unfold lookV
          go_wp2_with fail
          refine (look_c Kb18).mono ?_
          rintro e w19 ⟨rfl, F19⟩
          have HB19 := Lib.hid (HB18.out.trans (F19.below HB18.out.size (fun _ _ _ h => h)))
          have Ka19 := Ka18.fr F19 (fun _ _ _ h => h)
          have Kb19 := Kb18.fr F19 (fun _ _ _ h => h)
          have Kz19 := Kz18.fr F19 (fun _ h => h)
          clear F19 Ka18 Kb18 Kz18 HB18
          unfold lookV
          go_wp2_with fail
          refine (look_c Ka19).mono ?_
          rintro e w20 ⟨rfl, F20⟩
          have HB20 := Lib.hid (HB19.out.trans (F20.below HB19.out.size (fun _ _ _ h => h)))
          have Ka20 := Ka19.fr F20 (fun _ _ _ h => h)
          have Kb20 := Kb19.fr F20 (fun _ _ _ h => h)
          have Kz20 := Kz19.fr F20 (fun _ h => h)
          clear F20 Ka19 Kb19 Kz19 HB19
          unfold lookV
          go_wp2_with fail
          refine (look_c Kb20).mono ?_
          rintro e w21 ⟨rfl, F21⟩
          have HB21 := Lib.hid (HB20.out.trans (F21.below HB20.out.size (fun _ _ _ h => h)))
          have Ka21 := Ka20.fr F21 (fun _ _ _ h => h)
          have Kb21 := Kb20.fr F21 (fun _ _ _ h => h)
          have Kz21 := Kz20.fr F21 (fun _ h => h)
          clear F21 Ka20 Kb20 Kz20 HB20
          unfold lookV
          have HI := Lib.hid hI2; have HGA := Lib.hid Ka21; have HGB := Lib.hid Kb21; have hszF := Kz21.1
          clear Ka21 Kb21 Kz21 hI hI2
          go_wp2
          go_roundw
          case rel => exact ⟨k + 1, gx, px, by omega, by go_num, HI.out, HGA.out, HGB.out, HB21, by omega⟩
          case measure => simp [intOf]; omega
        have b3 : (z.kind == 3) = false := beq_eq_false_iff_ne.mpr q3
        clear q3
        by_cases q5 : z.kind = 5
        · have b5 : (z.kind == 5) = true := beq_iff_eq.mpr q5
          have Q5 := Lib.hid q5; clear q5
          have hk1 : w3.cell? ⟨Z, 1, none⟩ = some (.int .i64 z.mask) := Kz0.at 1 rfl
          have hk2 : w3.cell? ⟨Z, 2, none⟩ = some (.int .u64 z.handle) := Kz0.at 2 rfl
          have hk3 : w3.cell? ⟨Z, 3, none⟩ = some (.int .i64 z.mode) := Kz0.at 3 rfl
          go_wp2_with fail
          clear hk1 hk2 hk3
          clear hk0 Kz0
          generalize w3.alloc (.cells #[.bool g.op, .int .i64 g.ready, .int .i64 g.late, .int .u64 g.handle, .int .i64 g.want, .int .i64 g.mode, .int .i64 g.told] 34) = w4 at *
          generalize w3.heap.size = Lb at *
          refine (watch_c ga2 z.handle z.mask z.mode).mono ?_
          rintro e w22 ⟨rfl, Ka22, F22⟩
          have HB22 := below_gate HB2 F22 (Nat.le_refl _) (by omega)
          have Kb22 := gb2.fr F22 (fun o _ _ hs => by have := hs.1; omega)
          have Kz22 := zb2.fr F22 (fun o hs => by have := hs.1; omega)
          have Kl22 := lb2.fr F22 (fun o hs => by have := hs.1; omega)
          clear F22 ga2 gb2 zb2 lb2 HB2
          have hI2 := inv_watch hI z.handle z.mask z.mode
          generalize watchG g z.handle z.mask z.mode = gx at *
          have hrd := hI2.rd
          have hop := hI2.op
          clear Kl22
          go_wp2_with fail
          refine (look_c Ka22).mono ?_
          rintro e w23 ⟨rfl, F23⟩
          have HB23 := Lib.hid (HB22.out.trans (F23.below HB22.out.size (fun _ _ _ h => h)))
          have Ka23 := Ka22.fr F23 (fun _ _ _ h => h)
          have Kb23 := Kb22.fr F23 (fun _ _ _ h => h)
          have Kz23 := Kz22.fr F23 (fun _ h => h)
          clear F23 Ka22 Kb22 Kz22 HB22
          unfold lookV
          go_wp2_with fail
          refine (look_c Kb23).mono ?_
          rintro e w24 ⟨rfl, F24⟩
          have HB24 := Lib.hid (HB23.out.trans (F24.below HB23.out.size (fun _ _ _ h => h)))
          have Ka24 := Ka23.fr F24 (fun _ _ _ h => h)
          have Kb24 := Kb23.fr F24 (fun _ _ _ h => h)
          have Kz24 := Kz23.fr F24 (fun _ h => h)
          clear F24 Ka23 Kb23 Kz23 HB23
          unfold lookV
          go_wp2_with fail
          refine (look_c Ka24).mono ?_
          rintro e w25 ⟨rfl, F25⟩
          have HB25 := Lib.hid (HB24.out.trans (F25.below HB24.out.size (fun _ _ _ h => h)))
          have Ka25 := Ka24.fr F25 (fun _ _ _ h => h)
          have Kb25 := Kb24.fr F25 (fun _ _ _ h => h)
          have Kz25 := Kz24.fr F25 (fun _ h => h)
          clear F25 Ka24 Kb24 Kz24 HB24
          unfold lookV
          go_wp2_with fail
          refine (look_c Kb25).mono ?_
          rintro e w26 ⟨rfl, F26⟩
          have HB26 := Lib.hid (HB25.out.trans (F26.below HB25.out.size (fun _ _ _ h => h)))
          have Ka26 := Ka25.fr F26 (fun _ _ _ h => h)
          have Kb26 := Kb25.fr F26 (fun _ _ _ h => h)
          have Kz26 := Kz25.fr F26 (fun _ h => h)
          clear F26 Ka25 Kb25 Kz25 HB25
          unfold lookV
          have HI := Lib.hid hI2; have HGA := Lib.hid Ka26; have HGB := Lib.hid Kb26; have hszF := Kz26.1
          clear Ka26 Kb26 Kz26 hI hI2
          go_wp2
          go_roundw
          case rel => exact ⟨k + 1, gx, p, by omega, by go_num, HI.out, HGA.out, HGB.out, HB26, by omega⟩
          case measure => simp [intOf]; omega
        have b5 : (z.kind == 5) = false := beq_eq_false_iff_ne.mpr q5
        clear q5
        by_cases q6 : z.kind = 6
        · have b6 : (z.kind == 6) = true := beq_iff_eq.mpr q6
          have Q6 := Lib.hid q6; clear q6
          go_wp2_with fail
          clear hk0 Kz0
          generalize w3.alloc (.cells #[.bool g.op, .int .i64 g.ready, .int .i64 g.late, .int .u64 g.handle, .int .i64 g.want, .int .i64 g.mode, .int .i64 g.told] 34) = w4 at *
          generalize w3.heap.size = Lb at *
          refine (unwatch_c ga2).mono ?_
          rintro e w27 ⟨rfl, Ka27, F27⟩
          have HB27 := below_gate HB2 F27 (Nat.le_refl _) (by omega)
          have Kb27 := gb2.fr F27 (fun o _ _ hs => by have := hs.1; omega)
          have Kz27 := zb2.fr F27 (fun o hs => by have := hs.1; omega)
          have Kl27 := lb2.fr F27 (fun o hs => by have := hs.1; omega)
          clear F27 ga2 gb2 zb2 lb2 HB2
          have hI2 := inv_unwatch hI
          generalize unwatchG g = gx at *
          have hrd := hI2.rd
          have hop := hI2.op
          clear Kl27
          go_wp2_with fail
          refine (look_c Ka27).mono ?_
          rintro e w28 ⟨rfl, F28⟩
          have HB28 := Lib.hid (HB27.out.trans (F28.below HB27.out.size (fun _ _ _ h => h)))
          have Ka28 := Ka27.fr F28 (fun _ _ _ h => h)
          have Kb28 := Kb27.fr F28 (fun _ _ _ h => h)
          have Kz28 := Kz27.fr F28 (fun _ h => h)
          clear F28 Ka27 Kb27 Kz27 HB27
          unfold lookV
          go_wp2_with fail
          refine (look_c Kb28).mono ?_
          rintro e w29 ⟨rfl, F29⟩
          have HB29 := Lib.hid (HB28.out.trans (F29.below HB28.out.size (fun _ _ _ h => h)))
          have Ka29 := Ka28.fr F29 (fun _ _ _ h => h)
          have Kb29 := Kb28.fr F29 (fun _ _ _ h => h)
          have Kz29 := Kz28.fr F29 (fun _ h => h)
          clear F29 Ka28 Kb28 Kz28 HB28
          unfold lookV
          go_wp2_with fail
          refine (look_c Ka29).mono ?_
          rintro e w30 ⟨rfl, F30⟩
          have HB30 := Lib.hid (HB29.out.trans (F30.below HB29.out.size (fun _ _ _ h => h)))
          have Ka30 := Ka29.fr F30 (fun _ _ _ h => h)
          have Kb30 := Kb29.fr F30 (fun _ _ _ h => h)
          have Kz30 := Kz29.fr F30 (fun _ h => h)
          clear F30 Ka29 Kb29 Kz29 HB29
          unfold lookV
          go_wp2_with fail
          refine (look_c Kb30).mono ?_
          rintro e w31 ⟨rfl, F31⟩
          have HB31 := Lib.hid (HB30.out.trans (F31.below HB30.out.size (fun _ _ _ h => h)))
          have Ka31 := Ka30.fr F31 (fun _ _ _ h => h)
          have Kb31 := Kb30.fr F31 (fun _ _ _ h => h)
          have Kz31 := Kz30.fr F31 (fun _ h => h)
          clear F31 Ka30 Kb30 Kz30 HB30
          unfold lookV
          have HI := Lib.hid hI2; have HGA := Lib.hid Ka31; have HGB := Lib.hid Kb31; have hszF := Kz31.1
          clear Ka31 Kb31 Kz31 hI hI2
          go_wp2
          go_roundw
          case rel => exact ⟨k + 1, gx, p, by omega, by go_num, HI.out, HGA.out, HGB.out, HB31, by omega⟩
          case measure => simp [intOf]; omega
        have b6 : (z.kind == 6) = false := beq_eq_false_iff_ne.mpr q6
        clear q6
        by_cases q7 : z.kind = 7
        · have b7 : (z.kind == 7) = true := beq_iff_eq.mpr q7
          have Q7 := Lib.hid q7; clear q7
          go_wp2_with fail
          clear hk0 Kz0
          generalize w3.alloc (.cells #[.bool g.op, .int .i64 g.ready, .int .i64 g.late, .int .u64 g.handle, .int .i64 g.want, .int .i64 g.mode, .int .i64 g.told] 34) = w4 at *
          generalize w3.heap.size = Lb at *
          have hne : (bits .and .i64 g.ready z.mask != bits .and .i64 p.ready z.mask) = false := by rw [hI.rd]; simp
          have hz4 := zb2.at 1 (v := .int .i64 z.mask) rfl
          have hlz4 := zb2.1
          have HG2 := Lib.hid ga2; have HP2 := Lib.hid gb2; have HZ2 := Lib.hid zb2; have HL2 := Lib.hid lb2; clear ga2 gb2 zb2 lb2
          go_region_held3 (fun w' => w'.cell? ⟨Z, 1, none⟩ = some (.int .i64 z.mask)) (first | exact hz4 | exact hz5 | exact hz6) (first | (go_at_call 18; refine (ack_c (HP2.out.drew.fr HF5.out (fun o _ _ hs => by have := hs.1; omega)) z.mask).mono ?_; rintro e w6 ⟨rfl, Kb6, F6⟩; have hz6 : w6.cell? ⟨Z, 1, none⟩ = some (.int .i64 z.mask) := (F6.cell _ _ (Nat.lt_of_lt_of_le hlz4 HF5.out.size) (fun hs => by have := hs.1; omega)).trans hz5; have HF6 := Lib.hid F6; have HKb6 := Lib.hid Kb6; clear F6 Kb6) | (go_at_call_of 18 (Value.pointer (some ⟨B, 0, none⟩)); refine (ack_c HG2.out.drew z.mask).mono ?_; rintro e w5 ⟨rfl, Ka5, F5⟩; have hz5 : w5.cell? ⟨Z, 1, none⟩ = some (.int .i64 z.mask) := (F5.cell _ _ hlz4 (fun hs => by have := hs.1; omega)).trans hz4; have HF5 := Lib.hid F5; have HKa5 := Lib.hid Ka5; clear F5 Ka5))
          have hrd0 : p.ready = g.ready := hI.rd
          have ka := HKa5.out.fr HF6.out (fun o _ _ hs => by have := hs.1; omega)
          have kb := HKb6.out
          have kz := (HZ2.out.drew.fr HF5.out (fun o hs => by have := hs.1; omega)).fr HF6.out (fun o hs => by have := hs.1; omega)
          have kl := (HL2.out.drew.fr HF5.out (fun o hs => by have := hs.1; omega)).fr HF6.out (fun o hs => by have := hs.1; omega)
          have hb5 := below_gate (Lib.hid HB2.out.drew) HF5.out (Nat.le_refl _) (by omega)
          have hb6 := below_gate hb5 HF6.out (Nat.le_refl _) (by omega)
          clear HKa5 HKb6 HG2 HP2 HZ2 HL2 HF5 HF6 hb5 HB2 hz4 hz5 hz6 hlz4
          have hI2 := inv_ack hI z.mask
          generalize ackG g z.mask = gx at *
          generalize ackG p z.mask = px at *
          have hrd := hI2.rd
          have hop := hI2.op
          clear kl
          go_wp2_with fail
          refine (look_c ka).mono ?_
          rintro e w32 ⟨rfl, F32⟩
          have HB32 := Lib.hid (hb6.out.trans (F32.below hb6.out.size (fun _ _ _ h => h)))
          have Ka32 := ka.fr F32 (fun _ _ _ h => h)
          have Kb32 := kb.fr F32 (fun _ _ _ h => h)
          have Kz32 := kz.fr F32 (fun _ h => h)
          clear F32 ka kb kz hb6
          unfold lookV
          go_wp2_with fail
          refine (look_c Kb32).mono ?_
          rintro e w33 ⟨rfl, F33⟩
          have HB33 := Lib.hid (HB32.out.trans (F33.below HB32.out.size (fun _ _ _ h => h)))
          have Ka33 := Ka32.fr F33 (fun _ _ _ h => h)
          have Kb33 := Kb32.fr F33 (fun _ _ _ h => h)
          have Kz33 := Kz32.fr F33 (fun _ h => h)
          clear F33 Ka32 Kb32 Kz32 HB32
          unfold lookV
          go_wp2_with fail
          refine (look_c Ka33).mono ?_
          rintro e w34 ⟨rfl, F34⟩
          have HB34 := Lib.hid (HB33.out.trans (F34.below HB33.out.size (fun _ _ _ h => h)))
          have Ka34 := Ka33.fr F34 (fun _ _ _ h => h)
          have Kb34 := Kb33.fr F34 (fun _ _ _ h => h)
          have Kz34 := Kz33.fr F34 (fun _ h => h)
          clear F34 Ka33 Kb33 Kz33 HB33
          unfold lookV
          go_wp2_with fail
          refine (look_c Kb34).mono ?_
          rintro e w35 ⟨rfl, F35⟩
          have HB35 := Lib.hid (HB34.out.trans (F35.below HB34.out.size (fun _ _ _ h => h)))
          have Ka35 := Ka34.fr F35 (fun _ _ _ h => h)
          have Kb35 := Kb34.fr F35 (fun _ _ _ h => h)
          have Kz35 := Kz34.fr F35 (fun _ h => h)
          clear F35 Ka34 Kb34 Kz34 HB34
          unfold lookV
          have HI := Lib.hid hI2; have HGA := Lib.hid Ka35; have HGB := Lib.hid Kb35; have hszF := Kz35.1
          clear Ka35 Kb35 Kz35 hI hI2
          go_wp2
          go_roundw
          case rel => exact ⟨k + 1, gx, px, by omega, by go_num, HI.out, HGA.out, HGB.out, HB35, by omega⟩
          case measure => simp [intOf]; omega
        have b7 : (z.kind == 7) = false := beq_eq_false_iff_ne.mpr q7
        clear q7
        by_cases q8 : z.kind = 8
        · have b8 : (z.kind == 8) = true := beq_iff_eq.mpr q8
          have Q8 := Lib.hid q8; clear q8
          go_wp2_with fail
          clear hk0 Kz0
          generalize w3.alloc (.cells #[.bool g.op, .int .i64 g.ready, .int .i64 g.late, .int .u64 g.handle, .int .i64 g.want, .int .i64 g.mode, .int .i64 g.told] 34) = w4 at *
          generalize w3.heap.size = Lb at *
          refine (tell_c ga2).mono ?_
          rintro e w36 ⟨rfl, Ka36, F36⟩
          have HB36 := below_gate HB2 F36 (Nat.le_refl _) (by omega)
          have Kb36 := gb2.fr F36 (fun o _ _ hs => by have := hs.1; omega)
          have Kz36 := zb2.fr F36 (fun o hs => by have := hs.1; omega)
          have Kl36 := lb2.fr F36 (fun o hs => by have := hs.1; omega)
          clear F36 ga2 gb2 zb2 lb2 HB2
          have f0 := Kl36.at 0 rfl; have f1 := Kl36.at 1 rfl; have f3 := Kl36.at 3 rfl; have f4 := Kl36.at 4 rfl; have f5 := Kl36.at 5 rfl
          have m1 := mask_want hI
          have m1b : (bits .andNot .i64 (maskG g) g.want != 0) = false := by rw [m1]; rfl
          by_cases hm : maskG g = 0
          · have hw0 : whoG g = 0 := by unfold whoG; rw [if_pos hm]
            have hz' : bits .andNot .i64 0 g.ready = 0 := zero_andNot _
            rw [hw0, hm]
            rw [hm] at m1 m1b
            have M1 := Lib.hid m1; clear m1 hm hw0
            have hmdd : (g.mode == 0) = true ∨ (g.mode == 0) = false := by cases (g.mode == 0) <;> simp
            rcases hmdd with hmb | hmb
            · skip
              have hI2 := inv_tell hI
              generalize tellG g = gx at *
              have hrd := hI2.rd
              have hop := hI2.op
              clear Kl36
              go_wp2_with fail
              refine (look_c Ka36).mono ?_
              rintro e w37 ⟨rfl, F37⟩
              have HB37 := Lib.hid (HB36.out.trans (F37.below HB36.out.size (fun _ _ _ h => h)))
              have Ka37 := Ka36.fr F37 (fun _ _ _ h => h)
              have Kb37 := Kb36.fr F37 (fun _ _ _ h => h)
              have Kz37 := Kz36.fr F37 (fun _ h => h)
              clear F37 Ka36 Kb36 Kz36 HB36
              unfold lookV
              go_wp2_with fail
              refine (look_c Kb37).mono ?_
              rintro e w38 ⟨rfl, F38⟩
              have HB38 := Lib.hid (HB37.out.trans (F38.below HB37.out.size (fun _ _ _ h => h)))
              have Ka38 := Ka37.fr F38 (fun _ _ _ h => h)
              have Kb38 := Kb37.fr F38 (fun _ _ _ h => h)
              have Kz38 := Kz37.fr F38 (fun _ h => h)
              clear F38 Ka37 Kb37 Kz37 HB37
              unfold lookV
              go_wp2_with fail
              refine (look_c Ka38).mono ?_
              rintro e w39 ⟨rfl, F39⟩
              have HB39 := Lib.hid (HB38.out.trans (F39.below HB38.out.size (fun _ _ _ h => h)))
              have Ka39 := Ka38.fr F39 (fun _ _ _ h => h)
              have Kb39 := Kb38.fr F39 (fun _ _ _ h => h)
              have Kz39 := Kz38.fr F39 (fun _ h => h)
              clear F39 Ka38 Kb38 Kz38 HB38
              unfold lookV
              go_wp2_with fail
              refine (look_c Kb39).mono ?_
              rintro e w40 ⟨rfl, F40⟩
              have HB40 := Lib.hid (HB39.out.trans (F40.below HB39.out.size (fun _ _ _ h => h)))
              have Ka40 := Ka39.fr F40 (fun _ _ _ h => h)
              have Kb40 := Kb39.fr F40 (fun _ _ _ h => h)
              have Kz40 := Kz39.fr F40 (fun _ h => h)
              clear F40 Ka39 Kb39 Kz39 HB39
              unfold lookV
              have HI := Lib.hid hI2; have HGA := Lib.hid Ka40; have HGB := Lib.hid Kb40; have hszF := Kz40.1
              clear Ka40 Kb40 Kz40 hI hI2
              go_wp2
              go_roundw
              case rel => exact ⟨k + 1, gx, p, by omega, by go_num, HI.out, HGA.out, HGB.out, HB40, by omega⟩
              case measure => simp [intOf]; omega
            · skip
              have hI2 := inv_tell hI
              generalize tellG g = gx at *
              have hrd := hI2.rd
              have hop := hI2.op
              clear Kl36
              go_wp2_with fail
              refine (look_c Ka36).mono ?_
              rintro e w41 ⟨rfl, F41⟩
              have HB41 := Lib.hid (HB36.out.trans (F41.below HB36.out.size (fun _ _ _ h => h)))
              have Ka41 := Ka36.fr F41 (fun _ _ _ h => h)
              have Kb41 := Kb36.fr F41 (fun _ _ _ h => h)
              have Kz41 := Kz36.fr F41 (fun _ h => h)
              clear F41 Ka36 Kb36 Kz36 HB36
              unfold lookV
              go_wp2_with fail
              refine (look_c Kb41).mono ?_
              rintro e w42 ⟨rfl, F42⟩
              have HB42 := Lib.hid (HB41.out.trans (F42.below HB41.out.size (fun _ _ _ h => h)))
              have Ka42 := Ka41.fr F42 (fun _ _ _ h => h)
              have Kb42 := Kb41.fr F42 (fun _ _ _ h => h)
              have Kz42 := Kz41.fr F42 (fun _ h => h)
              clear F42 Ka41 Kb41 Kz41 HB41
              unfold lookV
              go_wp2_with fail
              refine (look_c Ka42).mono ?_
              rintro e w43 ⟨rfl, F43⟩
              have HB43 := Lib.hid (HB42.out.trans (F43.below HB42.out.size (fun _ _ _ h => h)))
              have Ka43 := Ka42.fr F43 (fun _ _ _ h => h)
              have Kb43 := Kb42.fr F43 (fun _ _ _ h => h)
              have Kz43 := Kz42.fr F43 (fun _ h => h)
              clear F43 Ka42 Kb42 Kz42 HB42
              unfold lookV
              go_wp2_with fail
              refine (look_c Kb43).mono ?_
              rintro e w44 ⟨rfl, F44⟩
              have HB44 := Lib.hid (HB43.out.trans (F44.below HB43.out.size (fun _ _ _ h => h)))
              have Ka44 := Ka43.fr F44 (fun _ _ _ h => h)
              have Kb44 := Kb43.fr F44 (fun _ _ _ h => h)
              have Kz44 := Kz43.fr F44 (fun _ h => h)
              clear F44 Ka43 Kb43 Kz43 HB43
              unfold lookV
              have HI := Lib.hid hI2; have HGA := Lib.hid Ka44; have HGB := Lib.hid Kb44; have hszF := Kz44.1
              clear Ka44 Kb44 Kz44 hI hI2
              go_wp2
              go_roundw
              case rel => exact ⟨k + 1, gx, p, by omega, by go_num, HI.out, HGA.out, HGB.out, HB44, by omega⟩
              case measure => simp [intOf]; omega
          · have hw0 : whoG g = g.handle := by unfold whoG; rw [if_neg hm]
            have ho := mask_open hI hm
            have mb : (maskG g != 0) = true := bne_iff_ne.mpr hm
            have mb2 : (maskG g == 0) = false := beq_eq_false_iff_ne.mpr hm
            rw [hw0]
            have M1 := Lib.hid m1; clear m1 hw0
            by_cases hmd : g.mode = 0
            · have m2 : bits .andNot .i64 (maskG g) g.ready = 0 := mask_ready (p := p) hmd
              have m2b : (bits .andNot .i64 (maskG g) g.ready != 0) = false := by rw [m2]; rfl
              have hmb : (g.mode == 0) = true := beq_iff_eq.mpr hmd
              have M2 := Lib.hid m2; have HM := Lib.hid hm; have HMD := Lib.hid hmd; clear m2 hm hmd
              have hI2 := inv_tell hI
              generalize tellG g = gx at *
              have hrd := hI2.rd
              have hop := hI2.op
              clear Kl36
              go_wp2_with fail
              refine (look_c Ka36).mono ?_
              rintro e w45 ⟨rfl, F45⟩
              have HB45 := Lib.hid (HB36.out.trans (F45.below HB36.out.size (fun _ _ _ h => h)))
              have Ka45 := Ka36.fr F45 (fun _ _ _ h => h)
              have Kb45 := Kb36.fr F45 (fun _ _ _ h => h)
              have Kz45 := Kz36.fr F45 (fun _ h => h)
              clear F45 Ka36 Kb36 Kz36 HB36
              unfold lookV
              go_wp2_with fail
              refine (look_c Kb45).mono ?_
              rintro e w46 ⟨rfl, F46⟩
              have HB46 := Lib.hid (HB45.out.trans (F46.below HB45.out.size (fun _ _ _ h => h)))
              have Ka46 := Ka45.fr F46 (fun _ _ _ h => h)
              have Kb46 := Kb45.fr F46 (fun _ _ _ h => h)
              have Kz46 := Kz45.fr F46 (fun _ h => h)
              clear F46 Ka45 Kb45 Kz45 HB45
              unfold lookV
              go_wp2_with fail
              refine (look_c Ka46).mono ?_
              rintro e w47 ⟨rfl, F47⟩
              have HB47 := Lib.hid (HB46.out.trans (F47.below HB46.out.size (fun _ _ _ h => h)))
              have Ka47 := Ka46.fr F47 (fun _ _ _ h => h)
              have Kb47 := Kb46.fr F47 (fun _ _ _ h => h)
              have Kz47 := Kz46.fr F47 (fun _ h => h)
              clear F47 Ka46 Kb46 Kz46 HB46
              unfold lookV
              go_wp2_with fail
              refine (look_c Kb47).mono ?_
              rintro e w48 ⟨rfl, F48⟩
              have HB48 := Lib.hid (HB47.out.trans (F48.below HB47.out.size (fun _ _ _ h => h)))
              have Ka48 := Ka47.fr F48 (fun _ _ _ h => h)
              have Kb48 := Kb47.fr F48 (fun _ _ _ h => h)
              have Kz48 := Kz47.fr F48 (fun _ h => h)
              clear F48 Ka47 Kb47 Kz47 HB47
              unfold lookV
              have HI := Lib.hid hI2; have HGA := Lib.hid Ka48; have HGB := Lib.hid Kb48; have hszF := Kz48.1
              clear Ka48 Kb48 Kz48 hI hI2
              go_wp2
              go_roundw
              case rel => exact ⟨k + 1, gx, p, by omega, by go_num, HI.out, HGA.out, HGB.out, HB48, by omega⟩
              case measure => simp [intOf]; omega
            · have hmb : (g.mode == 0) = false := beq_eq_false_iff_ne.mpr hmd
              have HM := Lib.hid hm; have HMD := Lib.hid hmd; clear hm hmd
              have hI2 := inv_tell hI
              generalize tellG g = gx at *
              have hrd := hI2.rd
              have hop := hI2.op
              clear Kl36
              go_wp2_with fail
              refine (look_c Ka36).mono ?_
              rintro e w49 ⟨rfl, F49⟩
              have HB49 := Lib.hid (HB36.out.trans (F49.below HB36.out.size (fun _ _ _ h => h)))
              have Ka49 := Ka36.fr F49 (fun _ _ _ h => h)
              have Kb49 := Kb36.fr F49 (fun _ _ _ h => h)
              have Kz49 := Kz36.fr F49 (fun _ h => h)
              clear F49 Ka36 Kb36 Kz36 HB36
              unfold lookV
              go_wp2_with fail
              refine (look_c Kb49).mono ?_
              rintro e w50 ⟨rfl, F50⟩
              have HB50 := Lib.hid (HB49.out.trans (F50.below HB49.out.size (fun _ _ _ h => h)))
              have Ka50 := Ka49.fr F50 (fun _ _ _ h => h)
              have Kb50 := Kb49.fr F50 (fun _ _ _ h => h)
              have Kz50 := Kz49.fr F50 (fun _ h => h)
              clear F50 Ka49 Kb49 Kz49 HB49
              unfold lookV
              go_wp2_with fail
              refine (look_c Ka50).mono ?_
              rintro e w51 ⟨rfl, F51⟩
              have HB51 := Lib.hid (HB50.out.trans (F51.below HB50.out.size (fun _ _ _ h => h)))
              have Ka51 := Ka50.fr F51 (fun _ _ _ h => h)
              have Kb51 := Kb50.fr F51 (fun _ _ _ h => h)
              have Kz51 := Kz50.fr F51 (fun _ h => h)
              clear F51 Ka50 Kb50 Kz50 HB50
              unfold lookV
              go_wp2_with fail
              refine (look_c Kb51).mono ?_
              rintro e w52 ⟨rfl, F52⟩
              have HB52 := Lib.hid (HB51.out.trans (F52.below HB51.out.size (fun _ _ _ h => h)))
              have Ka52 := Ka51.fr F52 (fun _ _ _ h => h)
              have Kb52 := Kb51.fr F52 (fun _ _ _ h => h)
              have Kz52 := Kz51.fr F52 (fun _ h => h)
              clear F52 Ka51 Kb51 Kz51 HB51
              unfold lookV
              have HI := Lib.hid hI2; have HGA := Lib.hid Ka52; have HGB := Lib.hid Kb52; have hszF := Kz52.1
              clear Ka52 Kb52 Kz52 hI hI2
              go_wp2
              go_roundw
              case rel => exact ⟨k + 1, gx, p, by omega, by go_num, HI.out, HGA.out, HGB.out, HB52, by omega⟩
              case measure => simp [intOf]; omega
        have b8 : (z.kind == 8) = false := beq_eq_false_iff_ne.mpr q8
        clear q8
        go_wp2_with fail
        clear hk0 Kz0
        generalize w3.alloc (.cells #[.bool g.op, .int .i64 g.ready, .int .i64 g.late, .int .u64 g.handle, .int .i64 g.want, .int .i64 g.mode, .int .i64 g.told] 34) = w4 at *
        generalize w3.heap.size = Lb at *
        have hI2 := hI
        have hrd := hI2.rd
        have hop := hI2.op
        clear lb2
        refine (look_c ga2).mono ?_
        rintro e w53 ⟨rfl, F53⟩
        have HB53 := Lib.hid (HB2.out.trans (F53.below HB2.out.size (fun _ _ _ h => h)))
        have Ka53 := ga2.fr F53 (fun _ _ _ h => h)
        have Kb53 := gb2.fr F53 (fun _ _ _ h => h)
        have Kz53 := zb2.fr F53 (fun _ h => h)
        clear F53 ga2 gb2 zb2 HB2
        unfold lookV
        go_wp2_with fail
        refine (look_c Kb53).mono ?_
        rintro e w54 ⟨rfl, F54⟩
        have HB54 := Lib.hid (HB53.out.trans (F54.below HB53.out.size (fun _ _ _ h => h)))
        have Ka54 := Ka53.fr F54 (fun _ _ _ h => h)
        have Kb54 := Kb53.fr F54 (fun _ _ _ h => h)
        have Kz54 := Kz53.fr F54 (fun _ h => h)
        clear F54 Ka53 Kb53 Kz53 HB53
        unfold lookV
        go_wp2_with fail
        refine (look_c Ka54).mono ?_
        rintro e w55 ⟨rfl, F55⟩
        have HB55 := Lib.hid (HB54.out.trans (F55.below HB54.out.size (fun _ _ _ h => h)))
        have Ka55 := Ka54.fr F55 (fun _ _ _ h => h)
        have Kb55 := Kb54.fr F55 (fun _ _ _ h => h)
        have Kz55 := Kz54.fr F55 (fun _ h => h)
        clear F55 Ka54 Kb54 Kz54 HB54
        unfold lookV
        go_wp2_with fail
        refine (look_c Kb55).mono ?_
        rintro e w56 ⟨rfl, F56⟩
        have HB56 := Lib.hid (HB55.out.trans (F56.below HB55.out.size (fun _ _ _ h => h)))
        have Ka56 := Ka55.fr F56 (fun _ _ _ h => h)
        have Kb56 := Kb55.fr F56 (fun _ _ _ h => h)
        have Kz56 := Kz55.fr F56 (fun _ h => h)
        clear F56 Ka55 Kb55 Kz55 HB55
        unfold lookV
        have HI := Lib.hid hI2; have HGA := Lib.hid Ka56; have HGB := Lib.hid Kb56; have hszF := Kz56.1
        clear Ka56 Kb56 Kz56 hI hI2
        go_wp2
        go_roundw
        case rel => exact ⟨k + 1, g, p, by omega, by go_num, HI.out, HGA.out, HGB.out, HB56, by omega⟩
        case measure => simp [intOf]; omega
      · go_wp2
        go_ret
        exact ⟨rfl, HB.out⟩
end Go.Proofs.Ytamnibfaoikdbaa
