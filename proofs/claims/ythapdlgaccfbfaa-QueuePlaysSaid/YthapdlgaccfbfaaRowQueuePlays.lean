/- The statement of QueuePlays, proved: for every input the law returns true and each argument reads afterwards as before. No condition. -/
import Derived.Test.YthapdlgaccfbfaaRows
import Derived.Test.YthapdlgaccfbfaaQpl
import Derived.Test.YthapdlgaccfbfaaRow
import Derived.WalkKit
import Derived.ProofKit
import Derived.OpenShut
import Derived.ShutString
import Derived.ChangeOld
import Derived.Below
import Derived.SizedLaws
import Derived.Lib.SmallJoins
namespace Go.Proofs.Ythapdlgaccfbfaa.queuePlays
open Go.ChangeShapes Go.WideShapes Go.ChangeAt Go.RowKit Go.Joins
open Go.ChangeMaps (open_string shut_string)
set_option linter.unusedVariables false
theorem own : ownKnob Try.prog.godebug = none := by kernel_rfl
theorem laidOut : laidOutB Try.prog = true := by kernel_rfl
set_option maxRecDepth 100000 in
theorem lifted (os : Os) (started : os.Started) (H : Type) (enc : TypeId × Value → H) :
    ReturnsInHanded {} Try.checked os 4 .any (Rows.queuePlaysSpec.pre6 enc Try.prog Try.f4 Rows.queuePlaysRow.domain false) (Rows.queuePlaysSpec.post enc Try.prog Try.f4 false true false false) := by
  refine returnsInHanded_of_change_sized (C := Try.checked) own started (by kernel_rfl) Try.func4
    (ChangeSpec.witness6 (enc := enc) (C := Try.checked) false ⟨#[], #[.int .i64 0, .int .i64 0, .int .i64 0, .slice none 0 0, .agg #[.int .i64 0, .int .i64 0]], []⟩ 8 (by kernel_rfl) (by kernel_rfl) (by kernel_rfl) (by kernel_rfl)) ?_
  intro W base args ds gs before hval0 hW hcnd hsz0 _
  have hsz : (DataW.weightsEach Try.prog (Try.f4.params.toList ++ Rows.queuePlaysSpec.plain.varTypes Try.prog) (ds ++ gs)).all (· ≤ reachBytes) = true := hsz0
  have hval : ∀ (j : Nat) t v, Try.f4.params[j]? = some t → args[j]? = some v → Value.okWide Try.prog W .any base t v := hval0
  have hW' := hW
  obtain ⟨p, q, hA0, hV, rfl, hfz, hnd⟩ := hW
  have hA : DataW.TrodAll enc Try.prog W 0 (fun _ => true) true Try.f4.params.toList args.toList ds p := hA0
  rw [Try.params4] at hA hval hsz
  obtain ⟨v0, vs0, d0, ds0, p0, q0, hargs, rfl, rfl, h0, r0⟩ := trodAll_cons hA
  obtain ⟨v1, vs1, d1, ds1, p1, q1, rfl, rfl, rfl, h1, r1⟩ := trodAll_cons r0
  obtain ⟨v2, vs2, d2, ds2, p2, q2, rfl, rfl, rfl, h2, r2⟩ := trodAll_cons r1
  obtain ⟨v3, vs3, d3, ds3, p3, q3, rfl, rfl, rfl, h3, r3⟩ := trodAll_cons r2
  obtain ⟨v4, vs4, d4, ds4, p4, q4, rfl, rfl, rfl, h4, r4⟩ := trodAll_cons r3
  obtain ⟨rfl, rfl, rfl⟩ := trodAll_nil r4
  obtain rfl : args = #[v0, v1, v2, v3, v4] := by cases args; simp_all
  obtain ⟨rfl, rfl⟩ := trodVars_none hV
  clear r0
  clear r1
  clear r2
  clear r3
  clear r4
  obtain ⟨a0, rfl, rfl, rfl, w0⟩ := open_int Try.underlying3 (hval 0 3 v0 rfl rfl) h0
  obtain ⟨a1, rfl, rfl, rfl, w1⟩ := open_int Try.underlying3 (hval 1 3 v1 rfl rfl) h1
  obtain ⟨a2, rfl, rfl, rfl, w2⟩ := open_int Try.underlying3 (hval 2 3 v2 rfl rfl) h2
  obtain ⟨A3, len3, c3, rfl⟩ := okWide_slice Try.underlying33 (hval 3 33 v3 rfl rfl)
  have kk3 := h3
  have lt3 : ∀ x ∈ p3, x.block < W.heap.size := by obtain ⟨m, hm⟩ := kk3; exact DataW.trod_lt m _ _ _ hm
  obtain ⟨x3, rfl, r3, g3, k3, zz3⟩ := open_row Oq.cells Oq.good Try.underlying33 3 (by kernel_rfl) (by decide) el_Oq h3
  have z3 : x3.length * 24 ≤ 140737488351232 := row_sized hsz (j := 3) (t := 33) rfl rfl Try.underlying33 (by kernel_rfl) zz3
  obtain ⟨c4_0, c4_1, y4_0, y4_1, m4, rfl, rfl, rfl, hy4_0, hy4_1⟩ := open_agg2 Try.underlying27 (by kernel_rfl) (show Try.prog.cellsOf 27 = 2 by kernel_rfl) (hval 4 27 v4 rfl rfl) h4
  obtain ⟨a4_0, e4_0, rfl, w4_0⟩ := DataW.trod_int Try.underlying3 hy4_0
  obtain rfl : c4_0 = .int .i64 a4_0 := by simpa using e4_0
  obtain ⟨a4_1, e4_1, rfl, w4_1⟩ := DataW.trod_int Try.underlying3 hy4_1
  obtain rfl : c4_1 = .int .i64 a4_1 := by simpa using e4_1
  clear hA0 hval0 hsz0 hsz
  refine (plays12_walk a0 a1 a2 A3 c3 x3 a4_0 a4_1 W r3).mono fun e W' ⟨he, bel⟩ => ?_
  subst he
  exact ⟨_, rfl, _, _, _, [], _, [], hW', trodAll_mk1 (shut_bool Try.underlying4 _), (trodAll_cons_mk (shut_int Try.underlying3 w0) (trodAll_cons_mk (shut_int Try.underlying3 w1) (trodAll_cons_mk (shut_int Try.underlying3 w2) (trodAll_cons_mk (Below.trod laidOut (by kernel_rfl) (of_decide_eq_true (by kernel_rfl)) kk3 bel lt3) (trodAll_cons_mk (shut_agg2 Try.underlying27 (by kernel_rfl) (show Try.prog.cellsOf 27 = 2 by kernel_rfl) (shut_int Try.underlying3 w4_0) (shut_int Try.underlying3 w4_1)) trodAll_mk0))))), rfl, bel.frame _, fun h => by cases h⟩
theorem over : Rows.queuePlaysRow.holds Try.pinned (OpenSpec.ofChange Rows.queuePlaysSpec) :=
  OpenClaim.holds_of_wide 4 Try.f4 rfl rfl rfl rfl rfl rfl rfl ⟨rfl, rfl, rfl, rfl, rfl⟩ rfl rfl rfl rfl rfl (by kernel_rfl) Try.func4 (by kernel_rfl)
    (of_decide_eq_true (by kernel_rfl)) (by unfold Func.isWrapper; first | (rw [if_pos (by decide +kernel)]; kernel_rfl) | (rw [if_neg (by decide +kernel)]; exact ⟨rfl, rfl⟩))
    (fun os started H enc _ => lifted os started H enc)
theorem proved : Rows.QueuePlaysSaid := over
#print axioms proved
end Go.Proofs.Ythapdlgaccfbfaa.queuePlays
namespace Go.Proofs.Ythapdlgaccfbfaa
/-- The row, under a short name, for the claim. -/
theorem queuePlays_holds : Rows.QueuePlaysSaid := queuePlays.proved
end Go.Proofs.Ythapdlgaccfbfaa
