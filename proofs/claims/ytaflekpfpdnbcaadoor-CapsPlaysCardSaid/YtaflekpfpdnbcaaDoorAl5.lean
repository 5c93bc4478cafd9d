/- The document's example of handles. -/
import Derived.Test.YtaflekpfpdnbcaaDoorTw
namespace Go.Proofs.YtaflekpfpdnbcaaDoor
open Go.RowKit
set_option linter.unusedVariables false
set_option linter.unusedSimpArgs false
set_option linter.unusedSectionVars false
set_option maxRecDepth 100000

theorem next1 (b : Bool) : nextB [b] false 0 = if b then none else some 0 := by
  cases b
  · exact nextB_some (by simp) (Nat.zero_le _) rfl (fun q hq _ h => by omega)
  · exact nextB_none (fun q hq _ => by
      have : q = 0 := by simpa using hq
      subst this
      exact fun e => by cases e)

set_option maxHeartbeats 16000000 in
theorem alive05_c (w : World) (hT : Tab w) : Calls Tryd.prog 9 #[] w fun e w' => e = .returned (.bool true) ∧ Below w.heap.size w w' := by
  have HT := Lib.hid hT
  clear hT
  go_enter Tryd.func9, Tryd.ntmps9
  go_wp2_with fail
  refine (new_R (cs := [1]) (cc := 1) (row_new w #[.int .i64 1] 3 [1] rfl) (by simp) (by simp)).mono ?_
  rintro e w2 ⟨s, b, ds, rfl, S, hds, F⟩
  have B0 := blA (Below.refl w.heap.size w) (.cells #[.int .i64 1] 3)
  have B2 := Lib.hid (B0.trans (F.mono B0.size))
  obtain ⟨d, rfl, hdn, O⟩ := S.one (w0 := w) (m := 1) hds B0.size (Nat.le_refl _) B2.out HT.out
  have SH := Lib.hid S; have OH := Lib.hid O
  clear F S hds B0 O
  go_wp2_with fail
  refine (region_R SH.out (k := 0) (by simp)).mono ?_
  rintro e w3 ⟨rfl, rfl⟩
  go_wp2_with fail
  refine (region_R SH.out (k := 0) (by simp)).mono ?_
  rintro e w3 ⟨rfl, rfl⟩
  rw [show [d][0] = d from rfl]
  have nt := Lib.hid (newT_w (w := w) OH.out.R (by decide) OH.out.bl B2.out HT.out ⟨OH.out.lo.2.2.2, OH.out.lo.2.1, OH.out.lo.2.2.1⟩ 2)
  clear OH SH hdn
  go_wp2_with fail
  refine nt.out.mono ?_
  rintro e w4 ⟨T, rfl, H⟩
  replace H : TabW w w4 T [Pc.new] 2 := H
  have m1 := H.mint 2 7 5
  rw [show nextB (xP 2 [Pc.new]) false 0 = some 0 from next1 false] at m1
  replace m1 : Calls Tryd.prog 11 #[.pointer (some ⟨T.t, 0, none⟩), .agg #[.int .i64 2, .int .i64 7, .int .i64 5]] w4 fun e w' => e = .returned (.tuple #[.int .u64 ((16777221 : Nat) : Int), .int .i64 0]) ∧ TabW w w' T [⟨1, true, 2, 7, 5⟩] 2 ∧ FrC T.F w4 w' := m1
  replace m1 := Lib.hid m1
  clear H nt
  go_wp2_with fail
  refine m1.out.mono ?_
  rintro e w5 ⟨rfl, H, -⟩
  have m2 := H.mint 0 0 0
  rw [show nextB (xP 2 [⟨1, true, 2, 7, 5⟩]) false 0 = none from next1 true] at m2
  replace m2 : Calls Tryd.prog 11 #[.pointer (some ⟨T.t, 0, none⟩), .agg #[.int .i64 0, .int .i64 0, .int .i64 0]] w5 fun e w' => e = .returned (.tuple #[.int .u64 0, .int .i64 4]) ∧ TabW w w' T [⟨1, true, 2, 7, 5⟩] 2 ∧ FrC T.F w5 w' := m2
  replace m2 := Lib.hid m2
  clear H m1
  go_wp2_with fail
  refine m2.out.mono ?_
  rintro e w6 ⟨rfl, H, -⟩
  have fd : findP [⟨1, true, 2, 7, 5⟩] 16777221 = some 0 := by decide
  have m3 := H.look (hd := 16777221) (by decide)
  rw [fd] at m3
  replace m3 : Calls Tryd.prog 13 #[.pointer (some ⟨T.t, 0, none⟩), .int .u64 ((16777221 : Nat) : Int)] w6 fun e w' => e = .returned (.tuple #[.agg #[.int .i64 2, .int .i64 7, .int .i64 5], .int .i64 0]) ∧ TabW w w' T [⟨1, true, 2, 7, 5⟩] 2 ∧ FrC T.F w6 w' := m3
  replace m3 := Lib.hid m3
  replace fd := Lib.hid fd
  clear H m2
  go_wp2_with fail
  refine m3.out.mono ?_
  rintro e w7 ⟨rfl, H, -⟩
  have cz := Cel.new w7 #[.int .i64 2, .int .i64 7, .int .i64 5] 30 1 (.int .i64 7) rfl
  have hno := H.S.no (k := w7.heap.size) (Nat.le_refl _)
  replace H := H.alloc (.cells #[.int .i64 2, .int .i64 7, .int .i64 5] 30)
  clear m3 fd
  go_wp2_with fail
  generalize w7.alloc (.cells #[.int .i64 2, .int .i64 7, .int .i64 5] 30) = w7' at *
  generalize w7.heap.size = Z7 at *
  have m := Lib.hid (show Calls Tryd.prog 19 #[.pointer (some ⟨T.t, 0, none⟩), .int .u64 ((16777221 : Nat) : Int), .int .i64 2, .int .i64 4] w7' fun e w' => e = .returned (.tuple #[.int .i64 7, .int .i64 0]) ∧ TabW w w' T [⟨1, true, 2, 7, 5⟩] 2 ∧ FrC T.F w7' w' from by
    have := H.need (hd := 16777221) (by decide) 2 4
    rw [show findP [⟨1, true, 2, 7, 5⟩] 16777221 = some 0 by decide, show needA [⟨1, true, 2, 7, 5⟩] 2 4 (some 0) = (7, 0) by kernel_rfl] at this
    exact this)
  go_wp2_with fail
  refine m.out.mono ?_
  rintro e w8 ⟨rfl, H', F⟩
  replace cz := F.keepT hno cz
  clear H m F
  have H := H'
  clear H'
  have m := Lib.hid (show Calls Tryd.prog 19 #[.pointer (some ⟨T.t, 0, none⟩), .int .u64 ((16777221 : Nat) : Int), .int .i64 2, .int .i64 2] w8 fun e w' => e = .returned (.tuple #[.int .i64 0, .int .i64 6]) ∧ TabW w w' T [⟨1, true, 2, 7, 5⟩] 2 ∧ FrC T.F w8 w' from by
    have := H.need (hd := 16777221) (by decide) 2 2
    rw [show findP [⟨1, true, 2, 7, 5⟩] 16777221 = some 0 by decide, show needA [⟨1, true, 2, 7, 5⟩] 2 2 (some 0) = (0, 6) by kernel_rfl] at this
    exact this)
  go_wp2_with fail
  refine m.out.mono ?_
  rintro e w9 ⟨rfl, H', F⟩
  replace cz := F.keepT hno cz
  clear H m F
  have H := H'
  clear H'
  have m := Lib.hid (show Calls Tryd.prog 19 #[.pointer (some ⟨T.t, 0, none⟩), .int .u64 ((16777221 : Nat) : Int), .int .i64 1, .int .i64 4] w9 fun e w' => e = .returned (.tuple #[.int .i64 0, .int .i64 7]) ∧ TabW w w' T [⟨1, true, 2, 7, 5⟩] 2 ∧ FrC T.F w9 w' from by
    have := H.need (hd := 16777221) (by decide) 1 4
    rw [show findP [⟨1, true, 2, 7, 5⟩] 16777221 = some 0 by decide, show needA [⟨1, true, 2, 7, 5⟩] 1 4 (some 0) = (0, 7) by kernel_rfl] at this
    exact this)
  go_wp2_with fail
  refine m.out.mono ?_
  rintro e w10 ⟨rfl, H', F⟩
  replace cz := F.keepT hno cz
  clear H m F
  have H := H'
  clear H'
  have pt := parts_c w10 16777221 (by decide)
  replace pt := Lib.hid (show Calls Tryd.prog 17 #[.int .u64 ((16777221 : Nat) : Int)] w10 fun e w' => e = .returned (.tuple #[.int .i64 0, .int .u64 1, .int .i64 5]) ∧ w10 = w' from pt)
  go_wp2_with fail
  refine pt.out.mono ?_
  rintro e wp ⟨rfl, rfl⟩
  clear pt
  have m := Lib.hid (show Calls Tryd.prog 12 #[.pointer (some ⟨T.t, 0, none⟩), .int .u64 ((16777221 : Nat) : Int)] w10 fun e w' => e = .returned (.int .i64 0) ∧ TabW w w' T [⟨1, false, 0, 0, 0⟩] 2 ∧ FrC T.F w10 w' from by
    have := H.revoke (hd := 16777221) (by decide)
    rw [show findP [⟨1, true, 2, 7, 5⟩] 16777221 = some 0 by decide] at this
    exact this)
  go_wp2_with fail
  refine m.out.mono ?_
  rintro e w11 ⟨rfl, H', F⟩
  replace cz := F.keepT hno cz
  clear H m F
  have H := H'
  clear H'
  have m := Lib.hid (show Calls Tryd.prog 12 #[.pointer (some ⟨T.t, 0, none⟩), .int .u64 ((16777221 : Nat) : Int)] w11 fun e w' => e = .returned (.int .i64 5) ∧ TabW w w' T [⟨1, false, 0, 0, 0⟩] 2 ∧ FrC T.F w11 w' from by
    have := H.revoke (hd := 16777221) (by decide)
    rw [show findP [⟨1, false, 0, 0, 0⟩] 16777221 = none by decide] at this
    exact this)
  go_wp2_with fail
  refine m.out.mono ?_
  rintro e w12 ⟨rfl, H', F⟩
  replace cz := F.keepT hno cz
  clear H m F
  have H := H'
  clear H'
  have m := Lib.hid (show Calls Tryd.prog 11 #[.pointer (some ⟨T.t, 0, none⟩), .agg #[.int .i64 1, .int .i64 0, .int .i64 5]] w12 fun e w' => e = .returned (.tuple #[.int .u64 ((33554437 : Nat) : Int), .int .i64 0]) ∧ TabW w w' T [⟨2, true, 1, 0, 5⟩] 2 ∧ FrC T.F w12 w' from by
    have := H.mint 1 0 5
    rw [show nextB (xP 2 [⟨1, false, 0, 0, 0⟩]) false 0 = some 0 from next1 false] at this
    exact this)
  go_wp2_with fail
  refine m.out.mono ?_
  rintro e w13 ⟨rfl, H', F⟩
  replace cz := F.keepT hno cz
  clear H m F
  have H := H'
  clear H'
  have m := Lib.hid (show Calls Tryd.prog 12 #[.pointer (some ⟨T.t, 0, none⟩), .int .u64 ((33554437 : Nat) : Int)] w13 fun e w' => e = .returned (.int .i64 0) ∧ TabW w w' T [⟨2, false, 0, 0, 0⟩] 2 ∧ FrC T.F w13 w' from by
    have := H.revoke (hd := 33554437) (by decide)
    rw [show findP [⟨2, true, 1, 0, 5⟩] 33554437 = some 0 by decide] at this
    exact this)
  go_wp2_with fail
  refine m.out.mono ?_
  rintro e w14 ⟨rfl, H', F⟩
  replace cz := F.keepT hno cz
  clear H m F
  have H := H'
  clear H'
  have m := Lib.hid (show Calls Tryd.prog 11 #[.pointer (some ⟨T.t, 0, none⟩), .agg #[.int .i64 0, .int .i64 0, .int .i64 0]] w14 fun e w' => e = .returned (.tuple #[.int .u64 0, .int .i64 4]) ∧ TabW w w' T [⟨2, false, 0, 0, 0⟩] 2 ∧ FrC T.F w14 w' from by
    have := H.mint 0 0 0
    rw [show nextB (xP 2 [⟨2, false, 0, 0, 0⟩]) false 0 = none from next1 true] at this
    exact this)
  go_wp2_with fail
  refine m.out.mono ?_
  rintro e w15 ⟨rfl, H', F⟩
  replace cz := F.keepT hno cz
  clear H m F
  have H := H'
  clear H'
  have cz1 := cz.1
  have m := Lib.hid (show Calls Tryd.prog 15 #[.pointer (some ⟨T.t, 0, none⟩)] w15 fun e w' => e = .returned (.int .i64 1) ∧ TabW w w' T [⟨2, false, 0, 0, 0⟩] 2 ∧ FrC T.F w15 w' from by
    have := H.dead
    exact this)
  go_wp2_with fail
  refine m.out.mono ?_
  rintro e w16 ⟨rfl, H', F⟩
  replace cz := F.keepT hno cz
  clear H m F
  have H := H'
  clear H'
  have m := Lib.hid (show Calls Tryd.prog 14 #[.pointer (some ⟨T.t, 0, none⟩)] w16 fun e w' => e = .returned (.int .i64 0) ∧ TabW w w' T [⟨2, false, 0, 0, 0⟩] 2 ∧ FrC T.F w16 w' from by
    have := H.count
    exact this)
  go_wp2_with fail
  refine m.out.mono ?_
  rintro e w17 ⟨rfl, H', F⟩
  replace cz := F.keepT hno cz
  clear H m F
  have H := H'
  clear H'
  have pk := pack_c w17 0 1 5 (by decide) (by decide)
  replace pk := Lib.hid (show Calls Tryd.prog 16 #[.int .i64 0, .int .i64 1, .int .i64 5] w17 fun e w' => e = .returned (.int .u64 ((16777221 : Nat) : Int)) ∧ w17 = w' from pk)
  have B := Lib.hid H.B
  go_wp2_with fail
  refine pk.out.mono ?_
  rintro e wp ⟨rfl, rfl⟩
  go_wp2
  go_ret
  exact ⟨rfl, B.out⟩
end Go.Proofs.YtaflekpfpdnbcaaDoor
