/- Queues: all things; a new one. -/
import Derived.Test.YtblapbnplflghaaQuD
namespace Go.Proofs.Ytblapbnplflghaa
open Go.RowKit
set_option linter.unusedVariables false
set_option linter.unusedSimpArgs false
set_option linter.unusedSectionVars false
set_option maxRecDepth 100000

def mx0 (a : Int) : Nat := (max a 0).toNat
set_option maxHeartbeats 8000000 in
theorem newQ_c (w : World) (a b m : Int) (t d mo : Nat) (ht : t = mx0 a) (hd : d = mx0 b) (hm : mo = mx0 m) (hb : t + d ≤ 4096) :
    Calls Try.prog 8 #[.int .i64 a, .int .i64 b, .int .i64 m] w fun e w' => ∃ q p L M, e = .returned (.pointer (some ⟨q, 0, none⟩)) ∧ QS w' q p L M t d mo [] ∧ w.heap.size ≤ q ∧ w.heap.size ≤ p ∧ w.heap.size ≤ L ∧ w.heap.size ≤ M ∧ Below w.heap.size w w' := by
  have e1 : (if a < 0 then 0 else a) = (t : Int) := by rw [ht]; unfold mx0; split <;> omega
  have e2 : (if b < 0 then 0 else b) = (d : Int) := by rw [hd]; unfold mx0; split <;> omega
  have e3 : (if m < 0 then 0 else m) = (mo : Int) := by rw [hm]; unfold mx0; split <;> omega
  have e4 : wrap64 ((t : Int) + d) = (t : Int) + d := by unfold wrap64; omega
  have hc1 : capI ((t : Int) + d) = ((t + d : Nat) : Int) := by unfold capI; omega
  replace hc1 := Lib.hid hc1; replace ht := Lib.hid ht; replace hd := Lib.hid hd; replace hm := Lib.hid hm
  go_enter Try.func8, Try.ntmps8
  go_wp2_with fail
  refine (new_i w _ 1 (t + d) 1 hc1.out rfl).mono ?_
  rintro e w1 ⟨p, L, M, rfl, K, bp, bL, bM, B⟩
  have hl := K.lt
  have hB := Below.alloc (Below.refl w1.heap.size w1) (Nat.le_refl _) (.cells #[.pointer (some ⟨p, 0, none⟩), .int .i64 t, .int .i64 d, .int .i64 mo, .int .i64 0] 61)
  have K2 := K.below hB (Nat.le_refl _)
  have c : ∀ j u, (#[.pointer (some ⟨p, 0, none⟩), .int .i64 t, .int .i64 d, .int .i64 mo, .int .i64 0] : Array Value)[j]? = some u → Cel (w1.alloc (.cells #[.pointer (some ⟨p, 0, none⟩), .int .i64 t, .int .i64 d, .int .i64 mo, .int .i64 0] 61)) w1.heap.size j u := fun j u hu => Cel.new w1 _ _ j u hu
  have S := Lib.hid (show QS (w1.alloc (.cells #[.pointer (some ⟨p, 0, none⟩), .int .i64 t, .int .i64 d, .int .i64 mo, .int .i64 0] 61)) w1.heap.size p L M t d mo [] from
    ⟨c 0 _ rfl, c 1 _ rfl, c 2 _ rfl, c 3 _ rfl, c 4 _ rfl, ⟨_, K2, rfl⟩, by omega, fun x hx => by simp at hx, List.nodup_nil, hb⟩)
  have B2 := Lib.hid (B.trans (hB.mono B.size))
  have hs := Lib.hid B.size
  have hbs := Lib.hid (And.intro bp (And.intro bL bM))
  clear K K2 hB c B bp bL bM hl
  go_wp2
  all_goals go_ret
  all_goals first
    | exact ⟨_, p, L, M, rfl, S.out, hs.out, hbs.out.1, hbs.out.2.1, hbs.out.2.2, B2.out⟩
    | exact ⟨_, rfl, p, L, M, S.out, hs.out, hbs.out.1, hbs.out.2.1, hbs.out.2.2, B2.out⟩
    | exact ⟨_, rfl, p, L, ⟨M, S.out⟩, hs.out, hbs.out.1, hbs.out.2.1, hbs.out.2.2, B2.out⟩
end Go.Proofs.Ytblapbnplflghaa
