/- Polls: watched, let be, closed. No condition. -/
import Derived.Test.YtblapbnplflghaaPp
namespace Go.Proofs.Ytblapbnplflghaa
open Go.RowKit
set_option linter.unusedVariables false
set_option linter.unusedSimpArgs false
set_option linter.unusedSectionVars false
set_option maxRecDepth 100000
section
variable {w : World} {D : PoD} {gs : List G} {ns : List (Int × Int)} {T : List Th} {f : Nat}

set_option maxHeartbeats 4000000 in
theorem watch_p (h : PoS w D gs ns T f) {K : Nat} (hK : K < gs.length) (hd wt md : Int) :
    Calls Try.prog 16 #[.pointer (some ⟨D.p, 0, none⟩), .int .i64 K, .int .u64 hd, .int .i64 wt, .int .i64 md] w fun e w' => e = .returned (.bool (watchB gs[K] wt md)) ∧ PoS w' D (gs.set K (watchG gs[K] hd wt md)) ns (if watchB gs[K] wt md then T.erase (2, (K : Int)) else T) f ∧ FrB D.F w w' := by
  have at1 := Lib.hid (at_p h (K := K) (by rw [← h.gl]; exact hK))
  have op1 := Lib.hid (watch_c (h.ga K hK) hd wt md)
  have H := Lib.hid h
  obtain ⟨b, hb⟩ : ∃ b, b = watchB gs[K] wt md := ⟨_, rfl⟩
  obtain ⟨g2, hg2⟩ : ∃ g, g = watchG gs[K] hd wt md := ⟨_, rfl⟩
  rw [← hb, ← hg2] at op1 ⊢
  clear h hb hg2
  cases b with
  | false =>
    go_enter Try.func16, Try.ntmps16
    go_wp2_with fail
    refine at1.out.mono ?_
    rintro e w2 ⟨rfl, rfl⟩
    go_wp2_with fail
    refine op1.out.mono ?_
    rintro e w3 ⟨rfl, G1, F⟩
    have fin := Lib.hid (And.intro (H.out.gate G1 F) (PoD.F_gate F))
    clear G1 F op1 at1
    go_wp2
    go_ret
    exact ⟨rfl, fin.out⟩
  | true =>
    go_enter Try.func16, Try.ntmps16
    go_wp2_with fail
    refine at1.out.mono ?_
    rintro e w2 ⟨rfl, rfl⟩
    go_wp2_with fail
    refine op1.out.mono ?_
    rintro e w3 ⟨rfl, G1, F⟩
    have H3 := Lib.hid (H.out.gate G1 F)
    have F3 := Lib.hid (PoD.F_gate F)
    have x2 := H3.out.c2.1
    have dr := Lib.hid (dropQ_c H3.out.qu (2, (K : Int)))
    clear G1 F op1 at1
    go_wp2_with fail
    refine dr.out.mono ?_
    rintro e w4 ⟨rfl, Q, F⟩
    have fin := Lib.hid (And.intro (H3.out.que Q F) (F3.out.allT (PoD.F_que F)))
    clear Q F dr x2
    go_wp2
    go_ret
    exact ⟨rfl, fin.out⟩
set_option maxHeartbeats 4000000 in
theorem unwatch_p (h : PoS w D gs ns T f) {K : Nat} (hK : K < gs.length) :
    Calls Try.prog 20 #[.pointer (some ⟨D.p, 0, none⟩), .int .i64 K] w fun e w' => e = .returned (.bool (gs[K].want != 0)) ∧ PoS w' D (gs.set K (unwatchG gs[K])) ns (if gs[K].want != 0 then T.erase (2, (K : Int)) else T) f ∧ FrB D.F w w' := by
  have at1 := Lib.hid (at_p h (K := K) (by rw [← h.gl]; exact hK))
  have op1 := Lib.hid (unwatch_c (h.ga K hK))
  have H := Lib.hid h
  obtain ⟨b, hb⟩ : ∃ b, b = (gs[K].want != 0) := ⟨_, rfl⟩
  obtain ⟨g2, hg2⟩ : ∃ g, g = unwatchG gs[K] := ⟨_, rfl⟩
  rw [← hb, ← hg2] at op1 ⊢
  clear h hb hg2
  cases b with
  | false =>
    go_enter Try.func20, Try.ntmps20
    go_wp2_with fail
    refine at1.out.mono ?_
    rintro e w2 ⟨rfl, rfl⟩
    go_wp2_with fail
    refine op1.out.mono ?_
    rintro e w3 ⟨rfl, G1, F⟩
    have fin := Lib.hid (And.intro (H.out.gate G1 F) (PoD.F_gate F))
    clear G1 F op1 at1
    go_wp2
    go_ret
    exact ⟨rfl, fin.out⟩
  | true =>
    go_enter Try.func20, Try.ntmps20
    go_wp2_with fail
    refine at1.out.mono ?_
    rintro e w2 ⟨rfl, rfl⟩
    go_wp2_with fail
    refine op1.out.mono ?_
    rintro e w3 ⟨rfl, G1, F⟩
    have H3 := Lib.hid (H.out.gate G1 F)
    have F3 := Lib.hid (PoD.F_gate F)
    have x2 := H3.out.c2.1
    have dr := Lib.hid (dropQ_c H3.out.qu (2, (K : Int)))
    clear G1 F op1 at1
    go_wp2_with fail
    refine dr.out.mono ?_
    rintro e w4 ⟨rfl, Q, F⟩
    have fin := Lib.hid (And.intro (H3.out.que Q F) (F3.out.allT (PoD.F_que F)))
    clear Q F dr x2
    go_wp2
    go_ret
    exact ⟨rfl, fin.out⟩
set_option maxHeartbeats 8000000 in
theorem close_p (h : PoS w D gs ns T f) {K : Nat} (hK : K < gs.length) :
    Calls Try.prog 11 #[.pointer (some ⟨D.p, 0, none⟩), .int .i64 K] w fun e w' => e = .returned (.bool gs[K].op) ∧ PoS w' D (gs.set K noG) (if gs[K].op then ns.filter (fun x => x.1 != (K : Int)) else ns) (if gs[K].op then T.erase (2, (K : Int)) else T) f ∧ FrB D.F w w' := by
  have B1 := blA (Below.refl w.heap.size w) (.cells #[.int .i64 K] 3)
  have H1 := h.below B1
  have at1 := Lib.hid (at_p H1 (K := K) (by rw [← h.gl]; exact hK))
  have op1 := Lib.hid (close_c (H1.ga K hK))
  have F1 := Lib.hid (FrB.of_below (S := D.F) B1 (Nat.le_refl _))
  have hZ := Lib.hid (show ∀ k, D.own k → k ≠ w.heap.size from fun k hk e => by have := h.lt hk; omega)
  have z0 := Lib.hid (Cel.new w #[.int .i64 K] 3 0 (.int .i64 K) rfl)
  have z0a := z0.out.1
  replace H1 := Lib.hid H1
  obtain ⟨b, hb⟩ : ∃ b, b = gs[K].op := ⟨_, rfl⟩
  rw [← hb] at op1 ⊢
  clear h hb B1
  cases b with
  | false =>
    go_enter Try.func11, Try.ntmps11
    go_wp2_with fail
    generalize w.alloc (.cells #[.int .i64 K] 3) = w1 at *
    refine at1.out.mono ?_
    rintro e w2 ⟨rfl, rfl⟩
    go_wp2_with fail
    refine op1.out.mono ?_
    rintro e w3 ⟨rfl, G1, F⟩
    have fin := Lib.hid (And.intro (H1.out.gate G1 F) (F1.out.allT (PoD.F_gate F)))
    clear G1 F op1 at1
    go_wp2
    go_ret
    exact ⟨rfl, fin.out⟩
  | true =>
    go_enter Try.func11, Try.ntmps11
    go_wp2_with fail
    generalize w.alloc (.cells #[.int .i64 K] 3) = w1 at *
    generalize hZb : w.heap.size = Z at *
    replace hZb := Lib.hid hZb
    refine at1.out.mono ?_
    rintro e w2 ⟨rfl, rfl⟩
    go_wp2_with fail
    refine op1.out.mono ?_
    rintro e w3 ⟨rfl, G1, F⟩
    have H3 := Lib.hid (H1.out.gate G1 F)
    have F3 := Lib.hid (F1.out.allT (PoD.F_gate F))
    have z3 := Lib.hid (z0.out.frb (PoD.F_gate (D := D) F) (fun e => hZ.out _ (PoD.F_own e) rfl))
    clear G1 F op1 at1 H1 F1 z0 z0a
    go_wp2_with fail
    refine seq_start [(0, true), (1, true), (2, true), (3, true), (4, true), (5, true), (6, false)] (fun w' => w'.cell? ⟨D.p, 2, none⟩ = some (.pointer (some ⟨D.q, 0, none⟩)) ∧ w'.cell? ⟨Z, 0, none⟩ = some (.int .i64 K)) (by kernel_rfl) (by kernel_rfl) rfl (by kernel_rfl) ⟨H3.out.drew.c2.1, z3.out.drew.1⟩ ?_
    iterate 6 (refine seq_read rfl (by first | rfl | (go_simp; done)) (fun w' hw => by obtain ⟨s0, s1⟩ := hw; go_simp; with_reducible rfl) ?_; try simp only [Act.put, List.setIfInBounds_toArray, List.set_cons_zero, List.set_cons_succ])
    replace H3 := Lib.hid H3.out.drew
    replace z3 := Lib.hid z3.out.drew
    replace F3 := Lib.hid F3.out.drew
    generalize w3.drew = w3 at *
    have dr := Lib.hid (dropQ_c H3.out.qu (2, (K : Int)))
    refine seq_call rfl (fun K hK => ?_)
    go_simp
    refine dr.out.mono ?_
    rintro e w4 ⟨rfl, Q, F⟩
    have H4 := Lib.hid (H3.out.que Q F)
    have F4 := Lib.hid (F3.out.allT (PoD.F_que F))
    have z4 := z3.out.frb (PoD.F_que (D := D) F) (fun e => hZ.out _ (PoD.F_own e) rfl)
    refine hK.out _ _ ⟨H4.out.c2.1, z4.1⟩ ?_
    clear hK K
    try simp only [Act.put, List.setIfInBounds_toArray, List.set_cons_zero, List.set_cons_succ]
    refine seq_done ?_
    have x1 := H4.out.c1.1
    have mf : ∀ (fn : Fn) (first cap : Array Value) (w : World), (Instr.makeFunc fn first cap).run Try.prog w = .ok (.func fn first cap) w := fun _ _ _ _ => rfl
    have sf := Lib.hid (sift_note (M := Z) (p := fun x => x.1 != (K : Int)) H4.out.bx ⟨z4.lt, fun e => hZ.out D.c (by unfold PoD.own; simp) e.symm⟩ (fun w' hw y => clo_close ((hw 0).trans z4.1) y))
    clear Q F dr H3 F3 z3
    go_wp2_with fail
    refine sf.out.mono ?_
    rintro e w5 ⟨rfl, b, F⟩
    have fin := Lib.hid (And.intro (H4.out.boxed b F (fun x hx => H4.out.no x (List.mem_filter.1 hx).1)) (F4.out.allT (PoD.F_box F)))
    clear b F sf
    go_wp2
    go_ret
    exact ⟨rfl, fin.out⟩
end
end Go.Proofs.Ytblapbnplflghaa
