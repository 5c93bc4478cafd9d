/- The statement of SlabPlays, proved: for every input the law returns true and each argument reads afterwards as before. The library's table math/bits.deBruijn64tab reads as the program's text lays it: the card ties it. -/
import Derived.Test.YtlkhpkdndmlnaaaDoorCards
import Derived.Test.YtlkhpkdndmlnaaaDoorTie
import Derived.Test.YtlkhpkdndmlnaaaDoorDoor
import Derived.Test.YtlkhpkdndmlnaaaDoorRows
import Derived.Test.YtlkhpkdndmlnaaaDoorPy3
import Derived.Test.YtlkhpkdndmlnaaaDoorRow
import Derived.WalkKit
import Derived.ProofKit
import Derived.OpenShut
import Derived.ShutString
import Derived.ChangeOld
import Derived.Below
import Derived.SizedLaws
import Derived.Lib.SmallJoins
import Derived.SevenTiedAt
import Derived.LaidMore
import Derived.Stop.Joined
import Derived.ChangeSame
namespace Go.Proofs.YtlkhpkdndmlnaaaDoor.slabPlays
open Go.ChangeShapes Go.WideShapes Go.ChangeAt Go.RowKit Go.Joins
open Go.ChangeMaps (open_string shut_string)
set_option linter.unusedVariables false
theorem own : ownKnob Tryd.prog.godebug = none := by kernel_rfl
theorem laidOut : laidOutB Tryd.prog = true := by kernel_rfl
set_option maxRecDepth 100000 in
theorem lifted (os : Os) (started : os.Started) (H : Type) (enc : TypeId × Value → H) :
    ReturnsInHanded {} Tryd.checked os 7 .any (fun w args => (Rows.slabPlaysSpec.pre enc Tryd.prog Tryd.f7 [] false w args ∧ laidMetH Tryd.prog laid1 w) ∧ sizedMet enc Tryd.prog Tryd.f7 (OpenSpec.ofChange Rows.slabPlaysSpec) false w args)
      (Rows.slabPlaysSpec.post enc Tryd.prog Tryd.f7 false true false false) := by
  refine returnsInHanded_of_change_and (C := Tryd.checked) (X := fun w _ => laidMetH Tryd.prog laid1 w) (fun _ _ _ hh h => h.of_heap hh) own started (by kernel_rfl) Tryd.func7
    (ChangeSpec.witness_shaped (enc := enc) (C := Tryd.checked) (os := os) (X := fun w _ => laidMetH Tryd.prog laid1 w) false (World.doorLaid Tryd.prog 4000 os) #[.slice none 0 0, .slice none 0 0, .int .i64 0] 8 rfl (World.shaped_of_RefB (by kernel_rfl) (by kernel_rfl)) (by kernel_rfl) (by kernel_rfl) (by kernel_rfl) (door_met os _)) ?_
  intro W base args ds gs before hval0 hW _ hsz0 hL _
  have hT := tab_of_laid hL
  have hsz : (DataW.weightsEach Tryd.prog (Tryd.f7.params.toList ++ Rows.slabPlaysSpec.plain.varTypes Tryd.prog) (ds ++ gs)).all (· ≤ reachBytes) = true := hsz0
  have hval : ∀ (j : Nat) t v, Tryd.f7.params[j]? = some t → args[j]? = some v → Value.okWide Tryd.prog W .any base t v := hval0
  have hW' := hW
  obtain ⟨p, q, hA0, hV, rfl, hfz, hnd⟩ := hW
  have hA : DataW.TrodAll enc Tryd.prog W 0 (fun _ => true) true Tryd.f7.params.toList args.toList ds p := hA0
  rw [Tryd.params7] at hA hval hsz
  obtain ⟨v0, vs0, d0, ds0, p0, q0, hargs, rfl, rfl, h0, r0⟩ := trodAll_cons hA
  obtain ⟨v1, vs1, d1, ds1, p1, q1, rfl, rfl, rfl, h1, r1⟩ := trodAll_cons r0
  obtain ⟨v2, vs2, d2, ds2, p2, q2, rfl, rfl, rfl, h2, r2⟩ := trodAll_cons r1
  obtain ⟨rfl, rfl, rfl⟩ := trodAll_nil r2
  obtain rfl : args = #[v0, v1, v2] := by cases args; simp_all
  obtain ⟨rfl, rfl⟩ := trodVars_none hV
  clear r0
  clear r1
  clear r2
  obtain ⟨A0, len0, c0, rfl⟩ := okWide_slice Tryd.underlying22 (hval 0 22 v0 rfl rfl)
  have kk0 := h0
  have lt0 : ∀ x ∈ p0, x.block < W.heap.size := by obtain ⟨m, hm⟩ := kk0; exact DataW.trod_lt m _ _ _ hm
  obtain ⟨x0, rfl, r0, g0, k0, zz0⟩ := open_row (fun x : Int => [.int .i64 x]) (fun x : Int => (Lit.int .i64 x).wf = true) Tryd.underlying22 1 (by kernel_rfl) (by decide) (el_int Tryd.underlying3) h0
  have z0 : x0.length * 8 ≤ 140737488351232 := row_sized hsz (j := 0) (t := 22) rfl rfl Tryd.underlying22 (by kernel_rfl) zz0
  obtain ⟨A1, len1, c1, rfl⟩ := okWide_slice Tryd.underlying46 (hval 1 46 v1 rfl rfl)
  have kk1 := h1
  have lt1 : ∀ x ∈ p1, x.block < W.heap.size := by obtain ⟨m, hm⟩ := kk1; exact DataW.trod_lt m _ _ _ hm
  obtain ⟨x1, rfl, r1, g1, k1, zz1⟩ := open_row Op3.cells Op3.good Tryd.underlying46 4 (by kernel_rfl) (by decide) el_Op3 h1
  have z1 : x1.length * 32 ≤ 140737488351232 := row_sized hsz (j := 1) (t := 46) rfl rfl Tryd.underlying46 (by kernel_rfl) zz1
  obtain ⟨a2, rfl, rfl, rfl, w2⟩ := open_int Tryd.underlying3 (hval 2 3 v2 rfl rfl) h2
  clear hA0 hval0 hsz0 hsz
  refine (plays3_walk A0 c0 x0 A1 c1 x1 a2 W hT r0 k0 r1).mono fun e W' ⟨he, bel⟩ => ?_
  subst he
  exact ⟨_, rfl, _, _, _, [], _, [], hW', trodAll_mk1 (shut_bool Tryd.underlying4 _), (trodAll_cons_mk (Below.trod laidOut (by kernel_rfl) (of_decide_eq_true (by kernel_rfl)) kk0 bel lt0) (trodAll_cons_mk (Below.trod laidOut (by kernel_rfl) (of_decide_eq_true (by kernel_rfl)) kk1 bel lt1) (trodAll_cons_mk (shut_int Tryd.underlying3 w2) trodAll_mk0))), rfl, bel.frame _, fun h => by cases h⟩
theorem over : Rows.slabPlaysRow.holds Tryd.pinned (OpenSpec.ofChange Rows.slabPlaysSpec) :=
  OpenClaim.holds_of_wide 7 Tryd.f7 rfl rfl rfl rfl rfl rfl rfl ⟨rfl, rfl, rfl, rfl, rfl⟩ rfl rfl rfl rfl rfl (by kernel_rfl) Tryd.func7 (by kernel_rfl)
    (of_decide_eq_true (by kernel_rfl)) (by unfold Func.isWrapper; first | (rw [if_pos (by decide +kernel)]; kernel_rfl) | (rw [if_neg (by decide +kernel)]; exact ⟨rfl, rfl⟩))
    (fun os started H enc _ => lifted os started H enc)
theorem proved : Rows.SlabPlaysSaid := over
#print axioms proved
end Go.Proofs.YtlkhpkdndmlnaaaDoor.slabPlays
namespace Go.Proofs.YtlkhpkdndmlnaaaDoor
/-- The tied card: the row, and what it lists tied to the program's text. -/
theorem slabPlays_holds : Rows.SlabPlaysCardSaid :=
  Claim7.holds_tied_plain_at .later [] [.data] true (true, "71ecb51ee8817d12a93cc1ed429e796a5830f142e1de70c4c5a2e4d39f517ef7") false
    slabPlays.proved (fun _ h => by cases h) (by kernel_rfl) (fun _ h => by cases h) slabPlays_row_tie rfl ⟨rfl, rfl⟩ (by kernel_rfl) rfl
    (fun f fn hf hfn => by
      obtain rfl : f = 7 := Option.some.inj ((show Tryd.prog.funcNamed "nightjar/nightjarlaw03.SlabPlays" = some 7 by kernel_rfl).symm.trans hf) |>.symm
      obtain rfl : fn = Tryd.f7 := (Option.some.inj (Tryd.func7.symm.trans hfn)).symm
      exact ⟨by kernel_rfl, fun j t ht => by
        rw [Tryd.params7] at ht
        have hm : t ∈ [22, 46, 3] := by simpa using Array.mem_of_getElem? ht
        have hall : ([22, 46, 3].all fun u => !Tryd.prog.wantsStandIn u) = true := by kernel_rfl
        exact (show Tryd.prog.wantsStandIn t = false by simpa using List.all_eq_true.1 hall t hm)⟩)
    (by kernel_rfl)
#print axioms slabPlays_holds
end Go.Proofs.YtlkhpkdndmlnaaaDoor
