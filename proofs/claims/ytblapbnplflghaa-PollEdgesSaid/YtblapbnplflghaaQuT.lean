/- Queues: a number's thing; whether a thing waits. -/
import Derived.Test.YtblapbnplflghaaQuS
namespace Go.Proofs.Ytblapbnplflghaa
open Go.RowKit
set_option linter.unusedVariables false
set_option linter.unusedSimpArgs false
set_option linter.unusedSectionVars false
set_option maxRecDepth 100000

set_option maxHeartbeats 4000000 in
theorem thing_c {w : World} {q p L M t d mo : Nat} {T : List Th} (h : QS w q p L M t d mo T) (k : Nat) (hk : k < t + d) :
    Calls Try.prog 44 #[.pointer (some ⟨q, 0, none⟩), .int .i64 k] w fun e w' => e = .returned (thV (thOf t k)) ∧ Below w.heap.size w w' := by
  have hB := Below.alloc (Below.refl w.heap.size w) (Nat.le_refl _) (.cells #[.int .i64 0, .int .i64 0] 45)
  have H1 := h.below hB
  have c1 := H1.c1.1
  have hbd := h.bd
  replace hB := Lib.hid hB
  clear h H1
  by_cases hlt : k < t
  · have d1 : decide ((k : Int) < (t : Int)) = true := by simp; omega
    have e1 : thOf t k = (1, (k : Int)) := by unfold thOf; rw [if_pos hlt]
    rw [e1]
    clear e1
    go_enter Try.func44, Try.ntmps44
    go_wp2
    have z0 := (Cel.new w #[.int .i64 1, .int .i64 k] 45 0 _ rfl).1
    have z1 := (Cel.new w #[.int .i64 1, .int .i64 k] 45 1 _ rfl).1
    refine bodyPost_ret (v := thV (1, (k : Int))) (by simp [results, Try.results44, go_sem, z0, z1, thV]) rfl ⟨rfl, Below.alloc (Below.refl w.heap.size w) (Nat.le_refl _) _⟩
  · have d1 : decide ((k : Int) < (t : Int)) = false := by simp; omega
    have e1 : thOf t k = (2, (k : Int) - t) := by unfold thOf; rw [if_neg hlt]
    have hw : wrap64 ((k : Int) - t) = (k : Int) - t := by unfold wrap64; omega
    rw [e1]
    clear e1
    go_enter Try.func44, Try.ntmps44
    go_wp2
    have z0 := (Cel.new w #[.int .i64 2, .int .i64 ((k : Int) - t)] 45 0 _ rfl).1
    have z1 := (Cel.new w #[.int .i64 2, .int .i64 ((k : Int) - t)] 45 1 _ rfl).1
    refine bodyPost_ret (v := thV (2, (k : Int) - t)) (by simp [results, Try.results44, go_sem, z0, z1, thV]) rfl ⟨rfl, Below.alloc (Below.refl w.heap.size w) (Nat.le_refl _) _⟩

theorem not_ok {t d : Nat} {T : List Th} {x : Th} (ho : ∀ y ∈ T, okB t d y = true) (h : okB t d x = false) : x ∉ T := fun hx => by rw [ho x hx] at h; cases h
theorem mem_node {t d : Nat} {T : List Th} {x : Th} (ho : ∀ y ∈ T, okB t d y = true) (h : okB t d x = true) : nodeN t x ∈ T.map (nodeN t) ↔ x ∈ T := by
  constructor
  · intro hm
    obtain ⟨y, hy, e⟩ := List.mem_map.1 hm
    rw [← node_inj (ho y hy) h e]; exact hy
  · exact fun hx => List.mem_map.2 ⟨x, hx, rfl⟩
theorem onB_node {t d : Nat} {T : List Th} {x : Th} {R : Nat → List Nat} (hR : R 0 = T.map (nodeN t)) (ho : ∀ y ∈ T, okB t d y = true) (h : okB t d x = true) : onB 1 R (nodeN t x : Int) = decide (x ∈ T) := by
  unfold onB isOn
  simp only [Int.natCast_nonneg, decide_true, Bool.true_and, Int.toNat_natCast]
  rw [show List.range 1 = [0] from rfl]
  simp only [List.any_cons, List.any_nil, Bool.or_false, hR]
  rw [decide_eq_decide]; exact mem_node ho h

set_option maxHeartbeats 4000000 in
theorem hasQ_c {w : World} {q p L M t d mo : Nat} {T : List Th} (h : QS w q p L M t d mo T) (x : Th) :
    Calls Try.prog 22 #[.pointer (some ⟨q, 0, none⟩), thV x] w fun e w' => e = .returned (.bool (decide (x ∈ T))) ∧ Below w.heap.size w w' := by
  have hB := Below.alloc (Below.refl w.heap.size w) (Nat.le_refl _) (.cells #[.int .i64 x.1, .int .i64 x.2] 45)
  have H1 := Lib.hid (h.below hB)
  have z0 := (Cel.new w #[.int .i64 x.1, .int .i64 x.2] 45 0 _ rfl).1
  have z1 := (Cel.new w #[.int .i64 x.1, .int .i64 x.2] 45 1 _ rfl).1
  replace hB := Lib.hid hB
  clear h
  go_enter Try.func22, Try.ntmps22
  go_wp2_with fail
  generalize w.alloc (.cells #[.int .i64 x.1, .int .i64 x.2] 45) = W at *
  refine (node_c H1.out x).mono ?_
  rintro e w1 ⟨rfl, B⟩
  have H2 := Lib.hid (H1.out.below B)
  have B2 := Lib.hid (hB.out.trans (B.mono hB.out.size))
  clear H1 B hB z0 z1
  cases hx : okB t d x with
  | false =>
    have hn := Lib.hid (show decide (x ∈ T) = false from decide_eq_false (not_ok H2.out.ok hx))
    have hv := Lib.hid (show nodeV t d x = 0 by unfold nodeV; rw [hx]; rfl)
    clear hx
    go_wp2
    go_ret
    exact ⟨by rw [hn.out]; rfl, B2.out⟩
  | true =>
    have hv : nodeV t d x = nodeN t x := by unfold nodeV; rw [hx]; rfl
    rw [hv]
    obtain ⟨R, h1, hR⟩ := H2.out.ch
    have hon := Lib.hid (onB_node hR H2.out.ok hx)
    replace h1 := Lib.hid h1
    have c0 := H2.out.c0.1
    clear hx hv hR
    go_wp2_with fail
    refine (on_i h1.out _).mono ?_
    rintro e w2 ⟨rfl, rfl⟩
    rw [hon.out]
    go_wp2
    go_ret
    exact ⟨rfl, B2.out⟩

theorem lenQ_c {w : World} {q p L M t d mo : Nat} {T : List Th} (h : QS w q p L M t d mo T) :
    Calls Try.prog 19 #[.pointer (some ⟨q, 0, none⟩)] w fun e w' => e = .returned (.int .i64 T.length) ∧ w = w' := by
  obtain ⟨R, h1, hR⟩ := h.ch
  have c0 := h.c0.1
  have hl := Lib.hid (show ((rowI R 0).length : Int) = T.length by unfold rowI; rw [if_pos (by decide)]; simp [hR])
  replace h := Lib.hid h; replace h1 := Lib.hid h1
  clear hR
  go_enter Try.func19, Try.ntmps19
  go_wp2_with fail
  refine (len_i h1.out 0).mono ?_
  rintro e w2 ⟨rfl, rfl⟩
  rw [hl.out]
  go_wp2
  go_ret
  exact ⟨rfl, rfl⟩
end Go.Proofs.Ytblapbnplflghaa
