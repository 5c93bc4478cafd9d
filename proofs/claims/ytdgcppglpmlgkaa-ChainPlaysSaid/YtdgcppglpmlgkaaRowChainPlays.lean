/- The statement of ChainPlays, proved: for every input the law returns true and each argument reads afterwards as before. No condition. -/
import Derived.Test.YtdgcppglpmlgkaaRows
import Derived.Test.YtdgcppglpmlgkaaPlays
import Derived.Test.YtdgcppglpmlgkaaRow
import Derived.WalkKit
import Derived.ProofKit
import Derived.OpenShut
import Derived.ShutString
import Derived.ChangeOld
import Derived.Below
import Derived.SizedLaws
import Derived.Lib.SmallJoins
namespace Go.Proofs.Ytdgcppglpmlgkaa.chainPlays
open Go.ChangeShapes Go.WideShapes Go.ChangeAt Go.RowKit Go.Joins
open Go.ChangeMaps (open_string shut_string)
set_option linter.unusedVariables false
theorem own : ownKnob Try.prog.godebug = none := by kernel_rfl
theorem laidOut : laidOutB Try.prog = true := by kernel_rfl
set_option maxRecDepth 100000 in
theorem lifted (os : Os) (started : os.Started) (H : Type) (enc : TypeId × Value → H) :
    ReturnsInHanded {} Try.checked os 8 .any (Rows.chainPlaysSpec.pre6 enc Try.prog Try.f8 Rows.chainPlaysRow.domain false) (Rows.chainPlaysSpec.post enc Try.prog Try.f8 false true false false) := by
  refine returnsInHanded_of_change_sized (C := Try.checked) own started (by kernel_rfl) Try.func8
    (ChangeSpec.witness6 (enc := enc) (C := Try.checked) false ⟨#[], #[.int .i64 0, .int .i64 0, .slice none 0 0, .agg #[.int .i64 0, .int .i64 0, .int .i64 0]], []⟩ 8 (by kernel_rfl) (by kernel_rfl) (by kernel_rfl) (by kernel_rfl)) ?_
  intro W base args ds gs before hval0 hW hcnd hsz0 _
  have hsz : (DataW.weightsEach Try.prog (Try.f8.params.toList ++ Rows.chainPlaysSpec.plain.varTypes Try.prog) (ds ++ gs)).all (· ≤ reachBytes) = true := hsz0
  have hval : ∀ (j : Nat) t v, Try.f8.params[j]? = some t → args[j]? = some v → Value.okWide Try.prog W .any base t v := hval0
  have hW' := hW
  obtain ⟨p, q, hA0, hV, rfl, hfz, hnd⟩ := hW
  have hA : DataW.TrodAll enc Try.prog W 0 (fun _ => true) true Try.f8.params.toList args.toList ds p := hA0
  rw [Try.params8] at hA hval hsz
  obtain ⟨v0, vs0, d0, ds0, p0, q0, hargs, rfl, rfl, h0, r0⟩ := trodAll_cons hA
  obtain ⟨v1, vs1, d1, ds1, p1, q1, rfl, rfl, rfl, h1, r1⟩ := trodAll_cons r0
  obtain ⟨v2, vs2, d2, ds2, p2, q2, rfl, rfl, rfl, h2, r2⟩ := trodAll_cons r1
  obtain ⟨v3, vs3, d3, ds3, p3, q3, rfl, rfl, rfl, h3, r3⟩ := trodAll_cons r2
  obtain ⟨rfl, rfl, rfl⟩ := trodAll_nil r3
  obtain rfl : args = #[v0, v1, v2, v3] := by cases args; simp_all
  obtain ⟨rfl, rfl⟩ := trodVars_none hV
  clear r0
  clear r1
  clear r2
  clear r3
  obtain ⟨a0, rfl, rfl, rfl, w0⟩ := open_int Try.underlying3 (hval 0 3 v0 rfl rfl) h0
  obtain ⟨a1, rfl, rfl, rfl, w1⟩ := open_int Try.underlying3 (hval 1 3 v1 rfl rfl) h1
  obtain ⟨A2, len2, c2, rfl⟩ := okWide_slice Try.underlying54 (hval 2 54 v2 rfl rfl)
  have kk2 := h2
  have lt2 : ∀ x ∈ p2, x.block < W.heap.size := by obtain ⟨m, hm⟩ := kk2; exact DataW.trod_lt m _ _ _ hm
  obtain ⟨x2, rfl, r2, g2, k2, zz2⟩ := open_row Op.cells Op.good Try.underlying54 3 (by kernel_rfl) (by decide) el_Op h2
  have z2 : x2.length * 24 ≤ 140737488351232 := row_sized hsz (j := 2) (t := 54) rfl rfl Try.underlying54 (by kernel_rfl) zz2
  obtain ⟨c3_0, c3_1, c3_2, y3_0, y3_1, y3_2, m3, rfl, rfl, rfl, hy3_0, hy3_1, hy3_2⟩ := open_agg3 Try.underlying56 (by kernel_rfl) (show Try.prog.cellsOf 56 = 3 by kernel_rfl) (hval 3 56 v3 rfl rfl) h3
  obtain ⟨a3_0, e3_0, rfl, w3_0⟩ := DataW.trod_int Try.underlying3 hy3_0
  obtain rfl : c3_0 = .int .i64 a3_0 := by simpa using e3_0
  obtain ⟨a3_1, e3_1, rfl, w3_1⟩ := DataW.trod_int Try.underlying3 hy3_1
  obtain rfl : c3_1 = .int .i64 a3_1 := by simpa using e3_1
  obtain ⟨a3_2, e3_2, rfl, w3_2⟩ := DataW.trod_int Try.underlying3 hy3_2
  obtain rfl : c3_2 = .int .i64 a3_2 := by simpa using e3_2
  clear hA0 hval0 hsz0 hsz
  refine (plays_walk a0 a1 A2 c2 x2 a3_0 a3_1 a3_2 W r2).mono fun e W' ⟨he, bel⟩ => ?_
  subst he
  exact ⟨_, rfl, _, _, _, [], _, [], hW', trodAll_mk1 (shut_bool Try.underlying4 _), (trodAll_cons_mk (shut_int Try.underlying3 w0) (trodAll_cons_mk (shut_int Try.underlying3 w1) (trodAll_cons_mk (Below.trod laidOut (by kernel_rfl) (of_decide_eq_true (by kernel_rfl)) kk2 bel lt2) (trodAll_cons_mk (shut_agg3 Try.underlying56 (by kernel_rfl) (show Try.prog.cellsOf 56 = 3 by kernel_rfl) (shut_int Try.underlying3 w3_0) (shut_int Try.underlying3 w3_1) (shut_int Try.underlying3 w3_2)) trodAll_mk0)))), rfl, bel.frame _, fun h => by cases h⟩
theorem over : Rows.chainPlaysRow.holds Try.pinned (OpenSpec.ofChange Rows.chainPlaysSpec) :=
  OpenClaim.holds_of_wide 8 Try.f8 rfl rfl rfl rfl rfl rfl rfl ⟨rfl, rfl, rfl, rfl, rfl⟩ rfl rfl rfl rfl rfl (by kernel_rfl) Try.func8 (by kernel_rfl)
    (of_decide_eq_true (by kernel_rfl)) (by unfold Func.isWrapper; first | (rw [if_pos (by decide +kernel)]; kernel_rfl) | (rw [if_neg (by decide +kernel)]; exact ⟨rfl, rfl⟩))
    (fun os started H enc _ => lifted os started H enc)
theorem proved : Rows.ChainPlaysSaid := over
#print axioms proved
end Go.Proofs.Ytdgcppglpmlgkaa.chainPlays
namespace Go.Proofs.Ytdgcppglpmlgkaa
/-- The row, under a short name, for the claim. -/
theorem chainPlays_holds : Rows.ChainPlaysSaid := chainPlays.proved
end Go.Proofs.Ytdgcppglpmlgkaa
