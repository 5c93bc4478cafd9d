/- The statement of SplitWeaves, proved: for every input the law returns true and each argument reads afterwards as before. No condition. -/
import Derived.Test.YtamnibfaoikdbaaRows
import Derived.Test.YtamnibfaoikdbaaWs
import Derived.Test.YtamnibfaoikdbaaRow
import Derived.WalkKit
import Derived.ProofKit
import Derived.OpenShut
import Derived.ShutString
import Derived.ChangeOld
import Derived.Below
import Derived.SizedLaws
import Derived.Lib.SmallJoins
namespace Go.Proofs.Ytamnibfaoikdbaa.splitWeaves
open Go.ChangeShapes Go.WideShapes Go.ChangeAt Go.RowKit Go.Joins
open Go.ChangeMaps (open_string shut_string)
set_option linter.unusedVariables false
theorem own : ownKnob Try.prog.godebug = none := by kernel_rfl
theorem laidOut : laidOutB Try.prog = true := by kernel_rfl
set_option maxRecDepth 100000 in
theorem lifted (os : Os) (started : os.Started) (H : Type) (enc : TypeId × Value → H) :
    ReturnsInHanded {} Try.checked os 7 .any (Rows.splitWeavesSpec.pre6 enc Try.prog Try.f7 Rows.splitWeavesRow.domain false) (Rows.splitWeavesSpec.post enc Try.prog Try.f7 false true false false) := by
  refine returnsInHanded_of_change_sized (C := Try.checked) own started (by kernel_rfl) Try.func7
    (ChangeSpec.witness6 (enc := enc) (C := Try.checked) false ⟨#[], #[.slice none 0 0, .slice none 0 0, .slice none 0 0, .int .i64 0], []⟩ 8 (by kernel_rfl) (by kernel_rfl) (by kernel_rfl) (by kernel_rfl)) ?_
  intro W base args ds gs before hval0 hW hcnd hsz0 _
  have hsz : (DataW.weightsEach Try.prog (Try.f7.params.toList ++ Rows.splitWeavesSpec.plain.varTypes Try.prog) (ds ++ gs)).all (· ≤ reachBytes) = true := hsz0
  have hval : ∀ (j : Nat) t v, Try.f7.params[j]? = some t → args[j]? = some v → Value.okWide Try.prog W .any base t v := hval0
  have hW' := hW
  obtain ⟨p, q, hA0, hV, rfl, hfz, hnd⟩ := hW
  have hA : DataW.TrodAll enc Try.prog W 0 (fun _ => true) true Try.f7.params.toList args.toList ds p := hA0
  rw [Try.params7] at hA hval hsz
  obtain ⟨v0, vs0, d0, ds0, p0, q0, hargs, rfl, rfl, h0, r0⟩ := trodAll_cons hA
  obtain ⟨v1, vs1, d1, ds1, p1, q1, rfl, rfl, rfl, h1, r1⟩ := trodAll_cons r0
  obtain ⟨v2, vs2, d2, ds2, p2, q2, rfl, rfl, rfl, h2, r2⟩ := trodAll_cons r1
  obtain ⟨v3, vs3, d3, ds3, p3, q3, rfl, rfl, rfl, h3, r3⟩ := trodAll_cons r2
  obtain ⟨rfl, rfl, rfl⟩ := trodAll_nil r3
  obtain rfl : args = #[v0, v1, v2, v3] := by cases args; simp_all
  obtain ⟨rfl, rfl⟩ := trodVars_none hV
  clear r0
  clear r1
  clear r2
  clear r3
  obtain ⟨A0, len0, c0, rfl⟩ := okWide_slice Try.underlying41 (hval 0 41 v0 rfl rfl)
  have kk0 := h0
  have lt0 : ∀ x ∈ p0, x.block < W.heap.size := by obtain ⟨m, hm⟩ := kk0; exact DataW.trod_lt m _ _ _ hm
  obtain ⟨x0, rfl, r0, g0, k0, zz0⟩ := open_row En.cells En.good Try.underlying41 9 (by kernel_rfl) (by decide) el_En h0
  have z0 : x0.length * 72 ≤ 140737488351232 := row_sized hsz (j := 0) (t := 41) rfl rfl Try.underlying41 (by kernel_rfl) zz0
  obtain ⟨A1, len1, c1, rfl⟩ := okWide_slice Try.underlying41 (hval 1 41 v1 rfl rfl)
  have kk1 := h1
  have lt1 : ∀ x ∈ p1, x.block < W.heap.size := by obtain ⟨m, hm⟩ := kk1; exact DataW.trod_lt m _ _ _ hm
  obtain ⟨x1, rfl, r1, g1, k1, zz1⟩ := open_row En.cells En.good Try.underlying41 9 (by kernel_rfl) (by decide) el_En h1
  have z1 : x1.length * 72 ≤ 140737488351232 := row_sized hsz (j := 1) (t := 41) rfl rfl Try.underlying41 (by kernel_rfl) zz1
  obtain ⟨A2, len2, c2, rfl⟩ := okWide_slice Try.underlying53 (hval 2 53 v2 rfl rfl)
  have kk2 := h2
  have lt2 : ∀ x ∈ p2, x.block < W.heap.size := by obtain ⟨m, hm⟩ := kk2; exact DataW.trod_lt m _ _ _ hm
  obtain ⟨x2, rfl, r2, g2, k2, zz2⟩ := open_row (fun x : Bool => [.bool x]) (fun x : Bool => True) Try.underlying53 1 (by kernel_rfl) (by decide) (el_bool Try.underlying4) h2
  have z2 : x2.length * 1 ≤ 140737488351232 := row_sized hsz (j := 2) (t := 53) rfl rfl Try.underlying53 (by kernel_rfl) zz2
  obtain ⟨a3, rfl, rfl, rfl, w3⟩ := open_int Try.underlying3 (hval 3 3 v3 rfl rfl) h3
  clear hA0 hval0 hsz0 hsz
  refine (weaves_walk A0 c0 x0 A1 c1 x1 A2 c2 x2 a3 W r0 r1 r2 k0 k1 z0 z1 z2).mono fun e W' ⟨he, bel⟩ => ?_
  subst he
  exact ⟨_, rfl, _, _, _, [], _, [], hW', trodAll_mk1 (shut_bool Try.underlying4 _), (trodAll_cons_mk (Below.trod laidOut (by kernel_rfl) (of_decide_eq_true (by kernel_rfl)) kk0 bel lt0) (trodAll_cons_mk (Below.trod laidOut (by kernel_rfl) (of_decide_eq_true (by kernel_rfl)) kk1 bel lt1) (trodAll_cons_mk (Below.trod laidOut (by kernel_rfl) (of_decide_eq_true (by kernel_rfl)) kk2 bel lt2) (trodAll_cons_mk (shut_int Try.underlying3 w3) trodAll_mk0)))), rfl, bel.frame _, fun h => by cases h⟩
theorem over : Rows.splitWeavesRow.holds Try.pinned (OpenSpec.ofChange Rows.splitWeavesSpec) :=
  OpenClaim.holds_of_wide 7 Try.f7 rfl rfl rfl rfl rfl rfl rfl ⟨rfl, rfl, rfl, rfl, rfl⟩ rfl rfl rfl rfl rfl (by kernel_rfl) Try.func7 (by kernel_rfl)
    (of_decide_eq_true (by kernel_rfl)) (by unfold Func.isWrapper; first | (rw [if_pos (by decide +kernel)]; kernel_rfl) | (rw [if_neg (by decide +kernel)]; exact ⟨rfl, rfl⟩))
    (fun os started H enc _ => lifted os started H enc)
theorem proved : Rows.SplitWeavesSaid := over
#print axioms proved
end Go.Proofs.Ytamnibfaoikdbaa.splitWeaves
namespace Go.Proofs.Ytamnibfaoikdbaa
/-- The row, under a short name, for the claim. -/
theorem splitWeaves_holds : Rows.SplitWeavesSaid := splitWeaves.proved
end Go.Proofs.Ytamnibfaoikdbaa
