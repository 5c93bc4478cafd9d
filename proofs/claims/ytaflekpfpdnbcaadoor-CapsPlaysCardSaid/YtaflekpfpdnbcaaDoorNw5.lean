/- A new table. -/
import Derived.Test.YtaflekpfpdnbcaaDoorRv
import Derived.Test.YtaflekpfpdnbcaaDoorNewR
import Derived.Deep.RegionWith
import Derived.RangeFuncBox
namespace Go.Proofs.YtaflekpfpdnbcaaDoor
open Go.RowKit
set_option linter.unusedVariables false
set_option linter.unusedSimpArgs false
set_option linter.unusedSectionVars false
set_option maxRecDepth 100000

theorem clamp_c (w : World) (a : Int) : Calls Tryd.prog 39 #[.int .i64 a, .int .i64 1, .int .i64 16777215] w fun e w' => e = .returned (.int .i64 (max 1 (min a 16777215))) ∧ w = w' := by
  go_enter Tryd.func39, Tryd.ntmps39
  go_wp2
  all_goals
    go_ret
    rename_i hh
    refine ⟨?_, rfl⟩
    show Ending.returned (.int .i64 _) = Ending.returned (.int .i64 _)
    congr 2
    split at hh <;> omega
/-- How many generations a place has. -/
def mostP (gens : Int) : Nat := (max 1 (min gens 16777215)).toNat
theorem mostP_le (gens : Int) : 1 ≤ mostP gens ∧ mostP gens ≤ 16777215 := by unfold mostP; omega
theorem infoInt : (Tryd.prog.info? 3).map (fun i => (i.zero, i.size, i.bytes)) = some (some (.int .i64 0), 1, 8) := by kernel_rfl
set_option maxHeartbeats 4000000 in
theorem newT_c {w : World} {r b off n p g : Nat} (R : RegS rwE w r b off n p g (List.replicate n Rw.zero) (List.replicate n false)) (hn : n ≤ 256) (hb : b < w.heap.size) (gens : Int) :
    Calls Tryd.prog 22 #[.pointer (some ⟨r, 0, none⟩), .int .i64 gens] w fun e w' => ∃ T : TD, e = .returned (.pointer (some ⟨T.t, 0, none⟩)) ∧ TabS w' T (List.replicate n Pc.new) (mostP gens) ∧ T.r = r ∧ T.b = b ∧ T.off = off ∧ T.n = n ∧ T.p = p ∧ T.g = g ∧ w.heap.size ≤ T.t ∧ w.heap.size ≤ T.G ∧ Below w.heap.size w w' := by
  obtain ⟨Z, s1, z1, k1⟩ := make_eq (t := 46) Tryd.underlying46 infoInt rfl rfl .i64 .i64 n (by omega) (by omega)
  replace s1 := Lib.hid s1; replace z1 := Lib.hid z1
  have rm := fun w' (F : Below w.heap.size w w') => room_R (R.below F)
  replace rm := Lib.hid rm
  have RH := Lib.hid R
  have cl := fun w => clamp_c w gens
  obtain ⟨m, hm⟩ : ∃ m, m = mostP gens := ⟨_, rfl⟩
  have hmb := mostP_le gens
  rw [show max 1 (min gens 16777215) = ((mostP gens : Nat) : Int) by unfold mostP; omega, ← hm] at cl
  rw [← hm] at hmb ⊢
  replace hm := Lib.hid hm
  replace cl := Lib.hid cl
  have e1 : (w.alloc (.cells Z 3)).heap.size = w.heap.size + 1 := by simp
  have B2 := blA (blA (Below.refl w.heap.size w) (.cells Z 3)) (.cells #[.pointer (some ⟨r, 0, none⟩), .slice (some ⟨w.heap.size, 0, none⟩) n n, .int .i64 m, .int .i64 0] 76)
  have lt := R.lt
  have cc := fun i v hv => Cel.new (w.alloc (.cells Z 3)) #[.pointer (some ⟨r, 0, none⟩), .slice (some ⟨w.heap.size, 0, none⟩) n n, .int .i64 m, .int .i64 0] 76 i v hv
  rw [e1] at cc
  have hshT := World.alloc_heap_new (w.alloc (.cells Z 3)) (.cells #[.pointer (some ⟨r, 0, none⟩), .slice (some ⟨w.heap.size, 0, none⟩) n n, .int .i64 m, .int .i64 0] 76)
  rw [e1] at hshT
  have FIN := Lib.hid (show TabS ((w.alloc (.cells Z 3)).alloc (.cells #[.pointer (some ⟨r, 0, none⟩), .slice (some ⟨w.heap.size, 0, none⟩) n n, .int .i64 m, .int .i64 0] 76)).drew ⟨w.heap.size + 1, r, b, off, n, p, g, w.heap.size⟩ (List.replicate n Pc.new) m from by
    refine (show TabS ((w.alloc (.cells Z 3)).alloc (.cells #[.pointer (some ⟨r, 0, none⟩), .slice (some ⟨w.heap.size, 0, none⟩) n n, .int .i64 m, .int .i64 0] 76)) ⟨w.heap.size + 1, r, b, off, n, p, g, w.heap.size⟩ (List.replicate n Pc.new) m from ⟨?_, cc 0 _ rfl, cc 1 _ rfl, cc 2 _ rfl, ?_, fun i hi => ?_, ⟨by simp; omega, by simp; omega⟩, ⟨⟨?_, ?_, ?_, ?_, ?_⟩, ?_, ?_, ?_, ?_⟩, fun x hx => ?_, hmb, hn, ⟨_, hshT⟩⟩).drew
    · have h1 : vsP (List.replicate n Pc.new) = List.replicate n Rw.zero := by simp [List.map_replicate]; right; rfl
      have h2 : xP m (List.replicate n Pc.new) = List.replicate n false := by
        simp [List.map_replicate]; right; unfold Pc.full Pc.new; simp; omega
      rw [h1, h2]
      exact R.below B2
    · have h3 : (List.replicate n Pc.new).countP (Pc.dead m) = 0 := by
        rw [List.countP_eq_zero]
        intro x hx
        rw [(List.mem_replicate.1 hx).2]
        unfold Pc.dead Pc.new; simp; omega
      rw [h3]
      exact cc 3 _ rfl
    · rw [List.length_replicate] at hi
      rw [show (List.replicate n Pc.new)[i]'(by rw [List.length_replicate]; exact hi) = Pc.new from List.getElem_replicate _]
      refine (Cel.new w Z 3 i _ ?_).alloc _
      have := z1.out i 0 hi (by decide)
      rw [Nat.mul_one, Nat.add_zero] at this
      rw [this]; rfl
    all_goals first | (dsimp only; omega) | skip
    rw [(List.mem_replicate.1 hx).2]
    exact ⟨Nat.zero_le _, fun e => by cases e⟩)
  have B3 : Hid (Below w.heap.size w ((w.alloc (.cells Z 3)).alloc (.cells #[.pointer (some ⟨r, 0, none⟩), .slice (some ⟨w.heap.size, 0, none⟩) n n, .int .i64 m, .int .i64 0] 76)).drew) := Lib.hid ⟨B2.os, B2.tape, B2.output, B2.size, B2.block⟩
  clear R e1 B2 lt cc hshT
  go_enter Tryd.func22, Tryd.ntmps22
  go_wp2_with fail
  go_region_with (first | (go_at_call 38; refine (rm.out w.drew ⟨rfl, rfl, rfl, Nat.le_refl _, fun _ _ => rfl⟩).mono ?_; rintro e w1 ⟨rfl, rfl⟩) | (go_at_call 39; refine (cl.out _).mono ?_; rintro e w1 ⟨rfl, rfl⟩) | fail)
  all_goals
    go_wp2
    go_ret
    exact ⟨_, rfl, FIN.out, rfl, rfl, rfl, rfl, rfl, rfl, Nat.le_succ _, Nat.le_refl _, B3.out⟩
end Go.Proofs.YtaflekpfpdnbcaaDoor
