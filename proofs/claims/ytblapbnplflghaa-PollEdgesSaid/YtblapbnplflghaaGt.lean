/- Contracts of the gate's functions. -/
import Derived.Test.YtblapbnplflghaaProg
import Derived.Test.YtblapbnplflghaaMem
import Derived.StillTailTactics
import Derived.BigQuiet
import Derived.Deep.QuietTactic
namespace Go.Proofs.Ytblapbnplflghaa
open Go.RowKit
set_option linter.unusedVariables false
set_option linter.unusedSimpArgs false

structure G where
  op : Bool
  ready : Int
  late : Int
  handle : Int
  want : Int
  mode : Int
  told : Int
deriving DecidableEq

/-- A gate lies at cell off of block b. -/
structure GC (w : World) (b off : Nat) (g : G) : Prop where
  c0 : Cel w b off (.bool g.op)
  c1 : Cel w b (off + 1) (.int .i64 g.ready)
  c2 : Cel w b (off + 2) (.int .i64 g.late)
  c3 : Cel w b (off + 3) (.int .u64 g.handle)
  c4 : Cel w b (off + 4) (.int .i64 g.want)
  c5 : Cel w b (off + 5) (.int .i64 g.mode)
  c6 : Cel w b (off + 6) (.int .i64 g.told)

theorem GC.lt {w : World} {b off : Nat} {g : G} (h : GC w b off g) : b < w.heap.size := h.c0.lt
theorem GC.fr {S : Nat → Nat → Prop} {w w' : World} {b off : Nat} {g : G} (h : GC w b off g) (hF : Fr S w w') (hs : ∀ o, off ≤ o → o < off + 7 → ¬ S b o) : GC w' b off g :=
  ⟨h.c0.fr hF (hs _ (by omega) (by omega)), h.c1.fr hF (hs _ (by omega) (by omega)), h.c2.fr hF (hs _ (by omega) (by omega)), h.c3.fr hF (hs _ (by omega) (by omega)), h.c4.fr hF (hs _ (by omega) (by omega)), h.c5.fr hF (hs _ (by omega) (by omega)), h.c6.fr hF (hs _ (by omega) (by omega))⟩
theorem GC.drewN {w : World} {b off : Nat} {g : G} (h : GC w b off g) (n : Nat) : GC (w.drewN n) b off g := ⟨h.c0, h.c1, h.c2, h.c3, h.c4, h.c5, h.c6⟩
theorem GC.drew {w : World} {b off : Nat} {g : G} (h : GC w b off g) : GC w.drew b off g := ⟨h.c0, h.c1, h.c2, h.c3, h.c4, h.c5, h.c6⟩
theorem GC.alloc {w : World} {b off : Nat} {g : G} (h : GC w b off g) (o : Obj) : GC (w.alloc o) b off g := ⟨h.c0.alloc o, h.c1.alloc o, h.c2.alloc o, h.c3.alloc o, h.c4.alloc o, h.c5.alloc o, h.c6.alloc o⟩
def noG : G := ⟨false, 0, 0, 0, 0, 0, 0⟩
theorem GC.new (w : World) (t : TypeId) : GC (w.alloc (.cells #[.bool false, .int .i64 0, .int .i64 0, .int .u64 0, .int .i64 0, .int .i64 0, .int .i64 0] t)) w.heap.size 0 noG :=
  ⟨Cel.new _ _ _ _ _ rfl, Cel.new _ _ _ _ _ rfl, Cel.new _ _ _ _ _ rfl, Cel.new _ _ _ _ _ rfl, Cel.new _ _ _ _ _ rfl, Cel.new _ _ _ _ _ rfl, Cel.new _ _ _ _ _ rfl⟩
theorem GC.set0 {w : World} {b off : Nat} {g : G} (h : GC w b off g) (v : Bool) : GC (w.setCell ⟨b, off, none⟩ (.bool v)) b off { g with op := v } :=
  ⟨h.c0.same _, h.c1.other (by omega) _, h.c2.other (by omega) _, h.c3.other (by omega) _, h.c4.other (by omega) _, h.c5.other (by omega) _, h.c6.other (by omega) _⟩
theorem GC.set1 {w : World} {b off : Nat} {g : G} (h : GC w b off g) (v : Int) : GC (w.setCell ⟨b, off + 1, none⟩ (.int .i64 v)) b off { g with ready := v } :=
  ⟨h.c0.other (by omega) _, h.c1.same _, h.c2.other (by omega) _, h.c3.other (by omega) _, h.c4.other (by omega) _, h.c5.other (by omega) _, h.c6.other (by omega) _⟩
theorem GC.set2 {w : World} {b off : Nat} {g : G} (h : GC w b off g) (v : Int) : GC (w.setCell ⟨b, off + 2, none⟩ (.int .i64 v)) b off { g with late := v } :=
  ⟨h.c0.other (by omega) _, h.c1.other (by omega) _, h.c2.same _, h.c3.other (by omega) _, h.c4.other (by omega) _, h.c5.other (by omega) _, h.c6.other (by omega) _⟩
theorem GC.set3 {w : World} {b off : Nat} {g : G} (h : GC w b off g) (v : Int) : GC (w.setCell ⟨b, off + 3, none⟩ (.int .u64 v)) b off { g with handle := v } :=
  ⟨h.c0.other (by omega) _, h.c1.other (by omega) _, h.c2.other (by omega) _, h.c3.same _, h.c4.other (by omega) _, h.c5.other (by omega) _, h.c6.other (by omega) _⟩
theorem GC.set4 {w : World} {b off : Nat} {g : G} (h : GC w b off g) (v : Int) : GC (w.setCell ⟨b, off + 4, none⟩ (.int .i64 v)) b off { g with want := v } :=
  ⟨h.c0.other (by omega) _, h.c1.other (by omega) _, h.c2.other (by omega) _, h.c3.other (by omega) _, h.c4.same _, h.c5.other (by omega) _, h.c6.other (by omega) _⟩
theorem GC.set5 {w : World} {b off : Nat} {g : G} (h : GC w b off g) (v : Int) : GC (w.setCell ⟨b, off + 5, none⟩ (.int .i64 v)) b off { g with mode := v } :=
  ⟨h.c0.other (by omega) _, h.c1.other (by omega) _, h.c2.other (by omega) _, h.c3.other (by omega) _, h.c4.other (by omega) _, h.c5.same _, h.c6.other (by omega) _⟩
theorem GC.set6 {w : World} {b off : Nat} {g : G} (h : GC w b off g) (v : Int) : GC (w.setCell ⟨b, off + 6, none⟩ (.int .i64 v)) b off { g with told := v } :=
  ⟨h.c0.other (by omega) _, h.c1.other (by omega) _, h.c2.other (by omega) _, h.c3.other (by omega) _, h.c4.other (by omega) _, h.c5.other (by omega) _, h.c6.same _⟩

def keepG (g : G) (m : Int) : G := if g.op then { g with late := bits .or .i64 g.late (bits .and .i64 m 7) } else g
def meetG (g : G) (m : Int) : G := if g.op then { g with ready := bits .or .i64 g.ready (bits .and .i64 m 7), told := bits .or .i64 g.told (bits .and .i64 m g.want) } else g
def openG (g : G) : G := if g.op then g else { noG with op := true }
def flushG (g : G) : G := meetG { g with late := 0 } g.late
def watchB (g : G) (want mode : Int) : Bool := g.op && decide (1 ≤ want) && decide (want ≤ 7) && decide (0 ≤ mode) && decide (mode ≤ 2)
def watchG (g : G) (handle want mode : Int) : G := if watchB g want mode then { g with handle := handle, want := want, mode := mode, told := bits .and .i64 g.ready want } else g
def unwatchG (g : G) : G := { g with handle := 0, want := 0, mode := 0, told := 0 }
def ackG (g : G) (m : Int) : G := { g with ready := bits .andNot .i64 g.ready m }
def maskG (g : G) : Int := if g.mode = 0 then bits .and .i64 g.ready g.want else g.told
def tellG (g : G) : G := if g.mode = 0 then { g with told := bits .and .i64 g.ready g.want } else if g.mode = 1 then { g with told := 0 } else if g.told = 0 then g else unwatchG g
def whoG (g : G) : Int := if maskG g = 0 then 0 else g.handle

theorem Fr.set {S : Nat → Nat → Prop} {b off : Nat} {a w : World} (h : Fr S a w) (hs : ∀ o, off ≤ o → o < off + 7 → S b o) (o : Nat) (h1 : off ≤ o) (h2 : o < off + 7) (u : Value) : Fr S a (w.setCell ⟨b, o, none⟩ u) :=
  h.setCell (fun _ => hs o h1 h2) u

set_option maxRecDepth 100000 in
theorem meet_c {w : World} {b off : Nat} {g : G} (h : GC w b off g) (m : Int) :
    Calls Try.prog 38 #[.pointer (some ⟨b, off, none⟩), .int .i64 m] w fun e w' => e = .returned (.tuple #[]) ∧ GC w' b off (meetG g m) ∧ Fr (cellsAt b off 7) w w' := by
  have hG := h
  obtain ⟨⟨h0, f0⟩, ⟨h1, f1⟩, ⟨h2, f2⟩, ⟨h3, f3⟩, ⟨h4, f4⟩, ⟨h5, f5⟩, ⟨h6, f6⟩⟩ := h
  obtain ⟨op, ready, late, handle, want, mode, told⟩ := g
  have HG := Lib.hid hG
  clear hG
  dsimp only at *
  cases op
  · go_enter Try.func38, Try.ntmps38
    go_wp2
    refine bodyPost_ret (results_none rfl _ _ _) rfl ?_
    exact ⟨rfl, HG.out, Fr.refl _ _⟩
  · go_enter Try.func38, Try.ntmps38
    go_wp2
    have G1 := HG.out.set1 (bits BinOp.or IntKind.i64 ready (bits BinOp.and IntKind.i64 m 7))
    have F1 : Fr (cellsAt b off 7) w (w.setCell ⟨b, off + 1, none⟩ (.int .i64 (bits BinOp.or IntKind.i64 ready (bits BinOp.and IntKind.i64 m 7)))) := (Fr.refl _ _).setCell (fun _ => cellsAt_mk (by omega) (by omega)) _
    generalize w.setCell ⟨b, off + 1, none⟩ (.int .i64 (bits BinOp.or IntKind.i64 ready (bits BinOp.and IntKind.i64 m 7))) = w1 at *
    have HG1 := Lib.hid G1
    have HF1 := Lib.hid F1
    clear h0 f0 h1 f1 h2 f2 h3 f3 h4 f4 h5 f5 h6 f6 F1
    obtain ⟨⟨h0, f0⟩, ⟨h1, f1⟩, ⟨h2, f2⟩, ⟨h3, f3⟩, ⟨h4, f4⟩, ⟨h5, f5⟩, ⟨h6, f6⟩⟩ := G1
    dsimp only at h0 f0 h1 f1 h2 f2 h3 f3 h4 f4 h5 f5 h6 f6
    refine wp_region_still_tail 13 (by kernel_rfl) (by kernel_rfl) ?_
    simp only [World.drew_eq, List.take_succ_cons, List.take_zero, List.drop_succ_cons, List.drop_zero]
    repeat still_step
    refine wpStill_nil ?_
    have HG2 := Lib.hid HG1.out.drew
    have HF2 := Lib.hid HF1.out.drew
    have f6' : w1.drew.frozen? ⟨b, off + 6, none⟩ = false := f6
    have h6' : w1.drew.cell? ⟨b, off + 6, none⟩ = some (.int .i64 told) := h6
    change wpList _ _ _ _ _ _
    clear HG1 HF1 h0 f0 h1 f1 h2 f2 h3 f3 h4 f4 h5 f5 h6 f6
    generalize w1.drew = w2 at *
    go_wp2
    go_end0
    exact ⟨rfl, HG2.out.set6 _, HF2.out.setCell (fun _ => cellsAt_mk (by omega) (by omega)) _⟩

theorem wants_c {w : World} {b off : Nat} {g : G} (h : GC w b off g) :
    Calls Try.prog 40 #[.pointer (some ⟨b, off, none⟩)] w fun e w' => e = .returned (.bool (g.told != 0)) ∧ w = w' := by
  have hG := h
  obtain ⟨⟨h0, f0⟩, ⟨h1, f1⟩, ⟨h2, f2⟩, ⟨h3, f3⟩, ⟨h4, f4⟩, ⟨h5, f5⟩, ⟨h6, f6⟩⟩ := h
  obtain ⟨op, ready, late, handle, want, mode, told⟩ := g
  have HG := Lib.hid hG
  clear hG
  dsimp only at *
  go_enter Try.func40, Try.ntmps40
  go_wp2
  go_ret
  exact ⟨rfl, rfl⟩

theorem open_c {w : World} {b off : Nat} {g : G} (h : GC w b off g) :
    Calls Try.prog 28 #[.pointer (some ⟨b, off, none⟩)] w fun e w' => e = .returned (.bool (!g.op)) ∧ GC w' b off (openG g) ∧ Fr (cellsAt b off 7) w w' := by
  have hG := h
  obtain ⟨⟨h0, f0⟩, ⟨h1, f1⟩, ⟨h2, f2⟩, ⟨h3, f3⟩, ⟨h4, f4⟩, ⟨h5, f5⟩, ⟨h6, f6⟩⟩ := h
  obtain ⟨op, ready, late, handle, want, mode, told⟩ := g
  have HG := Lib.hid hG
  clear hG
  dsimp only at *
  cases op
  · go_enter Try.func28, Try.ntmps28
    go_wp2
    go_ret
    exact ⟨rfl, ((((((HG.out.set0 true).set1 0).set2 0).set3 0).set4 0).set5 0).set6 0, ((((((((Fr.refl _ _).setCell (fun _ => cellsAt_mk (by omega) (by omega)) _).setCell (fun _ => cellsAt_mk (by omega) (by omega)) _).setCell (fun _ => cellsAt_mk (by omega) (by omega)) _).setCell (fun _ => cellsAt_mk (by omega) (by omega)) _).setCell (fun _ => cellsAt_mk (by omega) (by omega)) _).setCell (fun _ => cellsAt_mk (by omega) (by omega)) _).setCell (fun _ => cellsAt_mk (by omega) (by omega)) _)⟩
  · go_enter Try.func28, Try.ntmps28
    go_wp2
    go_ret
    exact ⟨rfl, HG.out, Fr.refl _ _⟩

theorem close_c {w : World} {b off : Nat} {g : G} (h : GC w b off g) :
    Calls Try.prog 29 #[.pointer (some ⟨b, off, none⟩)] w fun e w' => e = .returned (.bool g.op) ∧ GC w' b off noG ∧ Fr (cellsAt b off 7) w w' := by
  have hG := h
  obtain ⟨⟨h0, f0⟩, ⟨h1, f1⟩, ⟨h2, f2⟩, ⟨h3, f3⟩, ⟨h4, f4⟩, ⟨h5, f5⟩, ⟨h6, f6⟩⟩ := h
  obtain ⟨op, ready, late, handle, want, mode, told⟩ := g
  have HG := Lib.hid hG
  clear hG
  dsimp only at *
  go_enter Try.func29, Try.ntmps29
  go_wp2
  go_ret
  exact ⟨rfl, ((((((HG.out.set0 false).set1 0).set2 0).set3 0).set4 0).set5 0).set6 0, ((((((((Fr.refl _ _).setCell (fun _ => cellsAt_mk (by omega) (by omega)) _).setCell (fun _ => cellsAt_mk (by omega) (by omega)) _).setCell (fun _ => cellsAt_mk (by omega) (by omega)) _).setCell (fun _ => cellsAt_mk (by omega) (by omega)) _).setCell (fun _ => cellsAt_mk (by omega) (by omega)) _).setCell (fun _ => cellsAt_mk (by omega) (by omega)) _).setCell (fun _ => cellsAt_mk (by omega) (by omega)) _)⟩

theorem keep_c {w : World} {b off : Nat} {g : G} (h : GC w b off g) (m : Int) :
    Calls Try.prog 35 #[.pointer (some ⟨b, off, none⟩), .int .i64 m] w fun e w' => e = .returned (.tuple #[]) ∧ GC w' b off (keepG g m) ∧ Fr (cellsAt b off 7) w w' := by
  have hG := h
  obtain ⟨⟨h0, f0⟩, ⟨h1, f1⟩, ⟨h2, f2⟩, ⟨h3, f3⟩, ⟨h4, f4⟩, ⟨h5, f5⟩, ⟨h6, f6⟩⟩ := h
  obtain ⟨op, ready, late, handle, want, mode, told⟩ := g
  have HG := Lib.hid hG
  clear hG
  dsimp only at *
  cases op
  · go_enter Try.func35, Try.ntmps35
    go_wp2
    go_end0
    exact ⟨rfl, HG.out, Fr.refl _ _⟩
  · go_enter Try.func35, Try.ntmps35
    go_wp2
    go_end0
    exact ⟨rfl, HG.out.set2 _, ((Fr.refl _ _).setCell (fun _ => cellsAt_mk (by omega) (by omega)) _)⟩

theorem ack_c {w : World} {b off : Nat} {g : G} (h : GC w b off g) (m : Int) :
    Calls Try.prog 48 #[.pointer (some ⟨b, off, none⟩), .int .i64 m] w fun e w' => e = .returned (.int .i64 (bits .and .i64 g.ready m)) ∧ GC w' b off (ackG g m) ∧ Fr (cellsAt b off 7) w w' := by
  have hG := h
  obtain ⟨⟨h0, f0⟩, ⟨h1, f1⟩, ⟨h2, f2⟩, ⟨h3, f3⟩, ⟨h4, f4⟩, ⟨h5, f5⟩, ⟨h6, f6⟩⟩ := h
  obtain ⟨op, ready, late, handle, want, mode, told⟩ := g
  have HG := Lib.hid hG
  clear hG
  dsimp only at *
  go_enter Try.func48, Try.ntmps48
  go_wp2
  go_ret
  exact ⟨rfl, HG.out.set1 _, ((Fr.refl _ _).setCell (fun _ => cellsAt_mk (by omega) (by omega)) _)⟩

theorem unwatch_c {w : World} {b off : Nat} {g : G} (h : GC w b off g) :
    Calls Try.prog 47 #[.pointer (some ⟨b, off, none⟩)] w fun e w' => e = .returned (.bool (g.want != 0)) ∧ GC w' b off (unwatchG g) ∧ Fr (cellsAt b off 7) w w' := by
  have hG := h
  obtain ⟨⟨h0, f0⟩, ⟨h1, f1⟩, ⟨h2, f2⟩, ⟨h3, f3⟩, ⟨h4, f4⟩, ⟨h5, f5⟩, ⟨h6, f6⟩⟩ := h
  obtain ⟨op, ready, late, handle, want, mode, told⟩ := g
  have HG := Lib.hid hG
  clear hG
  dsimp only at *
  go_enter Try.func47, Try.ntmps47
  go_wp2
  go_ret
  exact ⟨rfl, (((HG.out.set3 0).set4 0).set5 0).set6 0, (((((Fr.refl _ _).setCell (fun _ => cellsAt_mk (by omega) (by omega)) _).setCell (fun _ => cellsAt_mk (by omega) (by omega)) _).setCell (fun _ => cellsAt_mk (by omega) (by omega)) _).setCell (fun _ => cellsAt_mk (by omega) (by omega)) _)⟩

theorem flush_c {w : World} {b off : Nat} {g : G} (h : GC w b off g) :
    Calls Try.prog 39 #[.pointer (some ⟨b, off, none⟩)] w fun e w' => e = .returned (.tuple #[]) ∧ GC w' b off (flushG g) ∧ Fr (cellsAt b off 7) w w' := by
  have hG := h
  obtain ⟨⟨h0, f0⟩, ⟨h1, f1⟩, ⟨h2, f2⟩, ⟨h3, f3⟩, ⟨h4, f4⟩, ⟨h5, f5⟩, ⟨h6, f6⟩⟩ := h
  obtain ⟨op, ready, late, handle, want, mode, told⟩ := g
  have HG := Lib.hid hG
  clear hG
  dsimp only at *
  have G1 := HG.out.set2 0
  have F1 : Fr (cellsAt b off 7) w (w.setCell ⟨b, off + 2, none⟩ (.int .i64 0)) := ((Fr.refl _ _).setCell (fun _ => cellsAt_mk (by omega) (by omega)) _)
  go_enter Try.func39, Try.ntmps39
  go_wp2_with fail
  refine (meet_c G1 late).mono ?_
  rintro e w' ⟨rfl, G2, F2⟩
  have HG2 := Lib.hid G2
  have HF2 := Lib.hid F2
  have HF1 := Lib.hid F1
  clear G2 F2 F1 G1
  go_wp2
  go_end0
  exact ⟨rfl, HG2.out, HF1.out.trans HF2.out⟩

theorem watch_c {w : World} {b off : Nat} {g : G} (h : GC w b off g) (hd wt md : Int) :
    Calls Try.prog 42 #[.pointer (some ⟨b, off, none⟩), .int .u64 hd, .int .i64 wt, .int .i64 md] w fun e w' => e = .returned (.bool (watchB g wt md)) ∧ GC w' b off (watchG g hd wt md) ∧ Fr (cellsAt b off 7) w w' := by
  by_cases hw : watchB g wt md = true
  · have hW : watchG g hd wt md = { g with handle := hd, want := wt, mode := md, told := bits .and .i64 g.ready wt } := by unfold watchG; rw [if_pos hw]
    rw [hW, hw]
    clear hW
    simp only [watchB, Bool.and_eq_true, decide_eq_true_eq] at hw
    obtain ⟨⟨⟨⟨k0, k1⟩, k2⟩, k3⟩, k4⟩ := hw
    have hG := h
    obtain ⟨⟨h0, f0⟩, ⟨h1, f1⟩, ⟨h2, f2⟩, ⟨h3, f3⟩, ⟨h4, f4⟩, ⟨h5, f5⟩, ⟨h6, f6⟩⟩ := h
    obtain ⟨op, ready, late, handle, want, mode, told⟩ := g
    have HG := Lib.hid hG
    clear hG
    dsimp only at *
    subst k0
    go_enter Try.func42, Try.ntmps42
    go_wp2
    go_ret
    exact ⟨rfl, (((HG.out.set3 _).set4 _).set5 _).set6 _, (((((Fr.refl _ _).setCell (fun _ => cellsAt_mk (by omega) (by omega)) _).setCell (fun _ => cellsAt_mk (by omega) (by omega)) _).setCell (fun _ => cellsAt_mk (by omega) (by omega)) _).setCell (fun _ => cellsAt_mk (by omega) (by omega)) _)⟩
  · have hW : watchG g hd wt md = g := by unfold watchG; rw [if_neg hw]
    have hw := Bool.eq_false_iff.mpr hw
    rw [hW, hw]
    clear hW
    simp only [watchB, Bool.and_eq_false_iff, decide_eq_false_iff_not] at hw
    have hG := h
    obtain ⟨⟨h0, f0⟩, ⟨h1, f1⟩, ⟨h2, f2⟩, ⟨h3, f3⟩, ⟨h4, f4⟩, ⟨h5, f5⟩, ⟨h6, f6⟩⟩ := h
    obtain ⟨op, ready, late, handle, want, mode, told⟩ := g
    have HG := Lib.hid hG
    clear hG
    dsimp only at *
    rcases hw with (((k | k) | k) | k) | k
    · subst k
      go_enter Try.func42, Try.ntmps42
      go_wp2
      go_ret
      exact ⟨rfl, HG.out, Fr.refl _ _⟩
    all_goals
      cases op
      all_goals
        go_enter Try.func42, Try.ntmps42
        go_wp2
        all_goals
          go_ret
          exact ⟨rfl, HG.out, Fr.refl _ _⟩


/-- What is to be seen of a gate, as a value. -/
def lookV (g : G) : Value := .agg #[.bool g.op, .int .i64 g.ready, .int .i64 g.late, .int .u64 g.handle, .int .i64 g.want, .int .i64 g.mode, .int .i64 g.told]

set_option maxRecDepth 100000 in
theorem look_c {w : World} {b off : Nat} {g : G} (h : GC w b off g) :
    Calls Try.prog 33 #[.pointer (some ⟨b, off, none⟩)] w fun e w' => e = .returned (lookV g) ∧ Fr (fun _ _ => False) w w' := by
  have hG := h
  obtain ⟨⟨h0, f0⟩, ⟨h1, f1⟩, ⟨h2, f2⟩, ⟨h3, f3⟩, ⟨h4, f4⟩, ⟨h5, f5⟩, ⟨h6, f6⟩⟩ := h
  obtain ⟨op, ready, late, handle, want, mode, told⟩ := g
  have HG := Lib.hid hG
  clear hG
  dsimp only at *
  have hlt := HG.out.lt
  have G1 := HG.out.alloc (.cells #[.bool false, .int .i64 0, .int .i64 0, .int .u64 0, .int .i64 0, .int .i64 0, .int .i64 0] 38)
  have n0 := Cel.new w #[.bool false, .int .i64 0, .int .i64 0, .int .u64 0, .int .i64 0, .int .i64 0, .int .i64 0] 38 0 (.bool false) rfl
  have n1 := Cel.new w #[.bool false, .int .i64 0, .int .i64 0, .int .u64 0, .int .i64 0, .int .i64 0, .int .i64 0] 38 1 (.int .i64 0) rfl
  have n2 := Cel.new w #[.bool false, .int .i64 0, .int .i64 0, .int .u64 0, .int .i64 0, .int .i64 0, .int .i64 0] 38 2 (.int .i64 0) rfl
  have n3 := Cel.new w #[.bool false, .int .i64 0, .int .i64 0, .int .u64 0, .int .i64 0, .int .i64 0, .int .i64 0] 38 3 (.int .u64 0) rfl
  have n4 := Cel.new w #[.bool false, .int .i64 0, .int .i64 0, .int .u64 0, .int .i64 0, .int .i64 0, .int .i64 0] 38 4 (.int .i64 0) rfl
  have n5 := Cel.new w #[.bool false, .int .i64 0, .int .i64 0, .int .u64 0, .int .i64 0, .int .i64 0, .int .i64 0] 38 5 (.int .i64 0) rfl
  have n6 := Cel.new w #[.bool false, .int .i64 0, .int .i64 0, .int .u64 0, .int .i64 0, .int .i64 0, .int .i64 0] 38 6 (.int .i64 0) rfl
  have N0 := Lib.hid n0; have N1 := Lib.hid n1; have N2 := Lib.hid n2; have N3 := Lib.hid n3; have N4 := Lib.hid n4; have N5 := Lib.hid n5; have N6 := Lib.hid n6
  have F1 := Lib.hid ((Fr.refl (fun _ _ => False) w).alloc (.cells #[.bool false, .int .i64 0, .int .i64 0, .int .u64 0, .int .i64 0, .int .i64 0, .int .i64 0] 38))
  have HG1 := Lib.hid G1
  clear n0 n1 n2 n3 n4 n5 n6 G1
  go_enter Try.func33, Try.ntmps33
  go_wp2
  clear h0 f0 h1 f1 h2 f2 h3 f3 h4 f4 h5 f5 h6 f6
  generalize w.alloc (.cells #[.bool false, .int .i64 0, .int .i64 0, .int .u64 0, .int .i64 0, .int .i64 0, .int .i64 0] 38) = w1 at *
  generalize hB : w.heap.size = B at *
  have HB := Lib.hid hB
  clear hB
  have G1 := HG1.out
  obtain ⟨⟨h0, f0⟩, ⟨h1, f1⟩, ⟨h2, f2⟩, ⟨h3, f3⟩, ⟨h4, f4⟩, ⟨h5, f5⟩, ⟨h6, f6⟩⟩ := G1
  dsimp only at h0 f0 h1 f1 h2 f2 h3 f3 h4 f4 h5 f5 h6 f6
  refine wp_region_still_tail 29 (by kernel_rfl) (by kernel_rfl) ?_
  simp only [World.drew_eq, List.take_succ_cons, List.take_zero, List.drop_succ_cons, List.drop_zero]
  repeat still_step
  refine wpStill_nil ?_
  clear h0 f0 h1 f1 h2 f2 h3 f3 h4 f4 h5 f5 h6 f6
  have n0 := N0.out.drew; have n1 := N1.out.drew; have n2 := N2.out.drew; have n3 := N3.out.drew; have n4 := N4.out.drew; have n5 := N5.out.drew; have n6 := N6.out.drew
  have F2 := Lib.hid F1.out.drew
  clear N0 N1 N2 N3 N4 N5 N6 F1 HG1
  change wpList _ _ _ _ _ _
  generalize w1.drew = w2 at *
  have Nx := Lib.hid (And.intro n0 (And.intro n1 (And.intro n2 (And.intro n3 (And.intro n4 (And.intro n5 n6))))))
  obtain ⟨e0, f0⟩ := n0; obtain ⟨e1, f1⟩ := n1; obtain ⟨e2, f2⟩ := n2; obtain ⟨e3, f3⟩ := n3; obtain ⟨e4, f4⟩ := n4; obtain ⟨e5, f5⟩ := n5; obtain ⟨e6, f6⟩ := n6
  go_wp2
  refine bodyPost_ret (v := lookV ⟨op, ready, late, handle, want, mode, told⟩) (by simp [results, Try.results33, go_sem, e0, e1, e2, e3, e4, e5, e6, lookV]) rfl ⟨rfl, ?_⟩
  have hn : ∀ o : Nat, B < w.heap.size → (fun _ _ => False : Nat → Nat → Prop) B o := fun o h => absurd h (by have := HB.out; omega)
  exact (((((((F2.out.setCell (hn 0) _).setCell (hn 1) _).setCell (hn 2) _).setCell (hn 3) _).setCell (hn 4) _).setCell (hn 5) _).setCell (hn 6) _)

set_option maxRecDepth 100000 in
theorem tell0_c {w : World} {b off : Nat} {g : G} (h : GC w b off g) (hm : g.mode = 0) :
    Calls Try.prog 45 #[.pointer (some ⟨b, off, none⟩)] w fun e w' => e = .returned (.tuple #[.int .u64 (whoG g), .int .i64 (maskG g)]) ∧ GC w' b off (tellG g) ∧ Fr (cellsAt b off 7) w w' := by
  have hG := h
  obtain ⟨⟨h0, f0⟩, ⟨h1, f1⟩, ⟨h2, f2⟩, ⟨h3, f3⟩, ⟨h4, f4⟩, ⟨h5, f5⟩, ⟨h6, f6⟩⟩ := h
  obtain ⟨op, ready, late, handle, want, mode, told⟩ := g
  have HG := Lib.hid hG
  clear hG
  dsimp only at *
  subst hm
  have hg0 : tellG ⟨op, ready, late, handle, want, 0, told⟩ = ⟨op, ready, late, handle, want, 0, bits .and .i64 ready want⟩ := rfl
  have hm : maskG ⟨op, ready, late, handle, want, 0, told⟩ = bits .and .i64 ready want := rfl
  rw [hg0]
  clear hg0
  by_cases hx : bits .and .i64 ready want = 0
  · have hh : whoG ⟨op, ready, late, handle, want, 0, told⟩ = 0 := by unfold whoG; rw [if_pos (by rw [hm, hx])]
    have hxb : (bits .and .i64 ready want == 0) = true := by rw [hx]; rfl
    have hxn : (bits .and .i64 ready want != 0) = false := by rw [hx]; rfl
    have hm0 : maskG ⟨op, ready, late, handle, want, 0, told⟩ = 0 := hx
    rw [hm0, hh]
    clear hm hm0 hh hx
    go_enter Try.func45, Try.ntmps45
    go_wp2
    go_quiet (fail)
    go_wp2
    go_quiet (fail)
    go_wp2
    go_ret2
    exact ⟨rfl, (HG.out.drewN _).set6 _, ((Fr.refl _ _).drewN _).setCell (fun _ => cellsAt_mk (by omega) (by omega)) _⟩
  · have hh : whoG ⟨op, ready, late, handle, want, 0, told⟩ = handle := by unfold whoG; rw [if_neg (by rw [hm]; exact hx)]
    have hxb : (bits .and .i64 ready want == 0) = false := beq_eq_false_iff_ne.mpr hx
    have hxn : (bits .and .i64 ready want != 0) = true := bne_iff_ne.mpr hx
    rw [hm, hh]
    clear hm hh hx
    go_enter Try.func45, Try.ntmps45
    go_wp2
    go_quiet (fail)
    go_wp2
    go_quiet (fail)
    go_wp2
    go_ret2
    exact ⟨rfl, (HG.out.drewN _).set6 _, ((Fr.refl _ _).drewN _).setCell (fun _ => cellsAt_mk (by omega) (by omega)) _⟩

set_option maxRecDepth 100000 in
theorem tell1_c {w : World} {b off : Nat} {g : G} (h : GC w b off g) (hm : g.mode = 1) :
    Calls Try.prog 45 #[.pointer (some ⟨b, off, none⟩)] w fun e w' => e = .returned (.tuple #[.int .u64 (whoG g), .int .i64 (maskG g)]) ∧ GC w' b off (tellG g) ∧ Fr (cellsAt b off 7) w w' := by
  have hG := h
  obtain ⟨⟨h0, f0⟩, ⟨h1, f1⟩, ⟨h2, f2⟩, ⟨h3, f3⟩, ⟨h4, f4⟩, ⟨h5, f5⟩, ⟨h6, f6⟩⟩ := h
  obtain ⟨op, ready, late, handle, want, mode, told⟩ := g
  have HG := Lib.hid hG
  clear hG
  dsimp only at *
  subst hm
  have hg0 : tellG ⟨op, ready, late, handle, want, 1, told⟩ = ⟨op, ready, late, handle, want, 1, 0⟩ := rfl
  have hm : maskG ⟨op, ready, late, handle, want, 1, told⟩ = told := rfl
  rw [hg0]
  clear hg0
  by_cases hx : told = 0
  · have hh : whoG ⟨op, ready, late, handle, want, 1, told⟩ = 0 := by unfold whoG; rw [if_pos (by rw [hm, hx])]
    rw [hm, hh]
    clear hm hh
    subst hx
    go_enter Try.func45, Try.ntmps45
    go_wp2
    go_quiet (fail)
    go_wp2
    go_ret2
    exact ⟨rfl, (HG.out.drewN _).set6 _, ((Fr.refl _ _).drewN _).setCell (fun _ => cellsAt_mk (by omega) (by omega)) _⟩
  · have hh : whoG ⟨op, ready, late, handle, want, 1, told⟩ = handle := by unfold whoG; rw [if_neg (by rw [hm]; exact hx)]
    have hxb : (told == 0) = false := beq_eq_false_iff_ne.mpr hx
    have hxn : (told != 0) = true := bne_iff_ne.mpr hx
    rw [hm, hh]
    clear hm hh hx
    go_enter Try.func45, Try.ntmps45
    go_wp2
    go_quiet (fail)
    go_wp2
    go_ret2
    exact ⟨rfl, (HG.out.drewN _).set6 _, ((Fr.refl _ _).drewN _).setCell (fun _ => cellsAt_mk (by omega) (by omega)) _⟩

set_option maxRecDepth 100000 in
theorem tell2_c {w : World} {b off : Nat} {g : G} (h : GC w b off g) (hm0 : ¬ g.mode = 0) (hm1 : ¬ g.mode = 1) :
    Calls Try.prog 45 #[.pointer (some ⟨b, off, none⟩)] w fun e w' => e = .returned (.tuple #[.int .u64 (whoG g), .int .i64 (maskG g)]) ∧ GC w' b off (tellG g) ∧ Fr (cellsAt b off 7) w w' := by
  have hG := h
  obtain ⟨⟨h0, f0⟩, ⟨h1, f1⟩, ⟨h2, f2⟩, ⟨h3, f3⟩, ⟨h4, f4⟩, ⟨h5, f5⟩, ⟨h6, f6⟩⟩ := h
  obtain ⟨op, ready, late, handle, want, mode, told⟩ := g
  have HG := Lib.hid hG
  clear hG
  dsimp only at *
  have hm : maskG ⟨op, ready, late, handle, want, mode, told⟩ = told := by unfold maskG; rw [if_neg hm0]
  have b0 : (mode == 0) = false := beq_eq_false_iff_ne.mpr hm0
  have b1 : (mode == 1) = false := beq_eq_false_iff_ne.mpr hm1
  by_cases hx : told = 0
  · have hg0 : tellG ⟨op, ready, late, handle, want, mode, told⟩ = ⟨op, ready, late, handle, want, mode, told⟩ := by unfold tellG; rw [if_neg hm0, if_neg hm1, if_pos hx]
    have hh : whoG ⟨op, ready, late, handle, want, mode, told⟩ = 0 := by unfold whoG; rw [if_pos (by rw [hm, hx])]
    rw [hm, hh, hg0]
    clear hm hh hg0 hm0 hm1
    subst hx
    go_enter Try.func45, Try.ntmps45
    go_wp2
    go_quiet (fail)
    go_wp2
    go_ret2
    exact ⟨rfl, HG.out.drewN _, (Fr.refl _ _).drewN _⟩
  · have hg0 : tellG ⟨op, ready, late, handle, want, mode, told⟩ = unwatchG ⟨op, ready, late, handle, want, mode, told⟩ := by unfold tellG; rw [if_neg hm0, if_neg hm1, if_neg hx]
    have hh : whoG ⟨op, ready, late, handle, want, mode, told⟩ = handle := by unfold whoG; rw [if_neg (by rw [hm]; exact hx)]
    have hxb : (told == 0) = false := beq_eq_false_iff_ne.mpr hx
    have hxn : (told != 0) = true := bne_iff_ne.mpr hx
    rw [hm, hh, hg0]
    clear hm hh hg0 hm0 hm1 hx
    go_enter Try.func45, Try.ntmps45
    go_wp2
    go_quiet (fail)
    go_wp2_with (go_at_call 47; refine (unwatch_c (HG.out.drewN _)).mono ?_; rintro e w' ⟨rfl, G2, F2⟩; have HG2 := Lib.hid G2; have HF2 := Lib.hid F2; clear G2 F2)
    go_ret2
    exact ⟨rfl, HG2.out, ((Fr.refl _ _).drewN _).trans HF2.out⟩

theorem tell_c {w : World} {b off : Nat} {g : G} (h : GC w b off g) :
    Calls Try.prog 45 #[.pointer (some ⟨b, off, none⟩)] w fun e w' => e = .returned (.tuple #[.int .u64 (whoG g), .int .i64 (maskG g)]) ∧ GC w' b off (tellG g) ∧ Fr (cellsAt b off 7) w w' := by
  by_cases h0 : g.mode = 0
  · exact tell0_c h h0
  · by_cases h1 : g.mode = 1
    · exact tell1_c h h1
    · exact tell2_c h h0 h1
end Go.Proofs.Ytblapbnplflghaa
