/- A handle is let be none any more. -/
import Derived.Test.YtaflekpfpdnbcaaDoorLk
namespace Go.Proofs.YtaflekpfpdnbcaaDoor
open Go.RowKit
set_option linter.unusedVariables false
set_option linter.unusedSimpArgs false
set_option linter.unusedSectionVars false
set_option maxRecDepth 100000

theorem cells_set {w : World} {b : Nat} {ca : Array Value} {t : TypeId} (h : w.heap[b]? = some (.cells ca t (0, 0))) (o : Nat) (v : Value) : ∃ cb, (w.setCell ⟨b, o, none⟩ v).heap[b]? = some (.cells cb t (0, 0)) := by
  obtain ⟨hlt, hk⟩ := Array.getElem?_eq_some_iff.1 h
  refine ⟨ca.setIfInBounds o v, ?_⟩
  show (w.heap.modify b _)[b]? = _
  rw [Array.getElem?_eq_getElem (by rw [Array.size_modify]; exact hlt), Array.getElem_modify_self, hk]
  rfl
def rF (T : TD) : Nat → Nat → Prop := fun k o => regF rwE T.b T.off T.n T.p T.g k o ∨ (k = T.t ∧ o = 3)
section
variable {w w' : World} {T : TD} {P : List Pc} {most : Nat}
theorem FrC.tabR (F : FrC (rF T) w w') : FrC T.F w w' := F.mono (fun i o e => by
  rcases e with e | e
  · exact .inl e
  · exact .inr (.inl e.1))
theorem TabS.rev (h : TabS w T P most) {s : Nat} (hs : s < P.length) (his : P[s].is = true) (R : RegS rwE w' T.r T.b T.off T.n T.p T.g ((vsP P).set s ⟨0, 0, 0, 0⟩) ((xP most P).set s (decide (most ≤ P[s].gen)))) (F : FrC (rF T) w w')
    (hc : Cel w' T.t 3 (.int .i64 ((P.countP (Pc.dead most) + (if most ≤ P[s].gen then 1 else 0) : Nat) : Int))) (hsh : ∃ ca, w'.heap[T.t]? = some (.cells ca 76 (0, 0))) : TabS w' T (P.set s P[s].off) most := by
  have nr := regF_not h.ok
  have tt := h.ok.t
  have ht : ∀ o, o ≠ 3 → ¬ rF T T.t o := fun o ho e => by
    rcases e with e | e
    · exact nr.1 o e
    · exact ho e.2
  refine ⟨?_, F.cel _ _ _ (ht _ (by decide)) h.c0, F.cel _ _ _ (ht _ (by decide)) h.c1, F.cel _ _ _ (ht _ (by decide)) h.c2, ?_, fun i hi => ?_, ⟨Nat.lt_of_lt_of_le h.gb.1 F.size, Nat.lt_of_lt_of_le h.gb.2 F.size⟩, h.ok, fun x hx => ?_, h.most, h.n, hsh⟩
  · rw [vsP_set, xP_set]
    exact R
  · have hx := countP_set (Pc.dead most) P s hs P[s].off
    rw [show Pc.dead most P[s] = false by unfold Pc.dead; rw [his]; rfl, show Pc.dead most P[s].off = decide (most ≤ P[s].gen) from rfl] at hx
    simp only [Bool.false_eq_true, if_false, Nat.add_zero, decide_eq_true_eq] at hx
    rw [hx]
    exact hc
  · rw [List.length_set] at hi
    rw [show (P.set s P[s].off)[i]'(by rw [List.length_set]; exact hi) = if s = i then P[s].off else P[i] from by rw [List.getElem_set]]
    have hg : (if s = i then P[s].off else P[i]).gen = P[i].gen := by
      split
      · rename_i e; subst e; rfl
      · rfl
    rw [hg]
    refine F.cel _ _ _ ?_ (h.gc i hi)
    rintro (e1 | e1)
    · exact nr.2 _ e1
    · exact tt.2.2.2.2 e1.1.symm
  · rcases List.mem_or_eq_of_mem_set hx with hx | rfl
    · exact h.pc x hx
    · exact ⟨(h.gens hs).1, fun e => by cases e⟩
end
/-- What Revoke answers, and leaves. -/
def revA : Option Nat → Int
  | none => 5
  | some _ => 0
def revP (P : List Pc) : Option Nat → List Pc
  | none => P
  | some s => P.set s (P.getD s Pc.new).off

set_option maxHeartbeats 8000000 in
theorem revoke_c {w : World} {T : TD} {P : List Pc} {most : Nat} (h : TabS w T P most) (hd : Nat) (hh : hd < 18446744073709551616) :
    Calls Tryd.prog 12 #[.pointer (some ⟨T.t, 0, none⟩), .int .u64 hd] w fun e w' => e = .returned (.int .i64 (revA (findP P hd))) ∧ TabS w' T (revP P (findP P hd)) most ∧ FrC T.F w w' := by
  have rc := row_c h hd hh
  have H := Lib.hid h
  have hn := h.n; have hl := h.len; have hmo := h.most.2
  clear h
  go_enter Tryd.func12, Tryd.ntmps12
  go_wp2_with fail
  refine rc.mono ?_
  rintro e w2 ⟨rfl, F⟩
  clear rc
  cases hf : findP P hd with
  | none =>
    replace hf := Lib.hid hf
    have B2 := Lib.hid (blA F (.cells #[.int .i64 0, .int .i64 0, .int .i64 0, .int .i64 0] 56))
    unfold rowA
    clear F
    go_wp2
    go_ret
    rw [hf.out]
    exact ⟨rfl, H.out.below B2.out, FrC.of_below B2.out (Nat.le_refl _)⟩
  | some s =>
    obtain ⟨-, hs, his, -, -⟩ := findP_some hf
    have hgd : P.getD s Pc.new = P[s] := by simp [hs]
    have hgb := (H.out.gens hs).1
    have hsn : s < T.n := by rw [← hl]; exact hs
    replace hf := Lib.hid hf; replace his := Lib.hid his
    replace hgd := Lib.hid hgd
    unfold rowA
    simp only []
    generalize (P.getD s Pc.new).kind = ck at *
    generalize (P.getD s Pc.new).index = ci at *
    generalize (P.getD s Pc.new).rights = cr at *
    generalize (P.getD s Pc.new).gen = cg at *
    have B2 := Lib.hid (blA F (.cells #[.int .i64 (cg : Nat), .int .i64 ck, .int .i64 ci, .int .i64 (cr : Nat)] 56))
    clear F
    have H3 := Lib.hid (H.out.below B2.out)
    have B3 : Hid (Below w.heap.size w (w2.alloc (.cells #[.int .i64 (cg : Nat), .int .i64 ck, .int .i64 ci, .int .i64 (cr : Nat)] 56)).drew) := Lib.hid ⟨B2.out.os, B2.out.tape, B2.out.output, B2.out.size, B2.out.block⟩
    clear B2 H
    go_wp2_with fail
    generalize w2.alloc (.cells #[.int .i64 (cg : Nat), .int .i64 ck, .int .i64 ci, .int .i64 (cr : Nat)] 56) = w3 at *
    have x1 := H3.out.c1; have x2 := H3.out.c2; have xg := H3.out.gc s hs
    obtain ⟨gN, hgN⟩ : ∃ z, z = P[s].gen := ⟨_, rfl⟩
    rw [← hgN] at xg hgb
    have hg7 : gN ≤ 16777215 := by omega
    replace hgN := Lib.hid hgN
    refine seq_start [(0, true), (1, true), (2, true), (3, true), (4, true), (5, true), (6, true), (7, true), (8, true), (9, true), (10, true), (11, true)] (fun w' => w'.cell? ⟨T.t, 1, none⟩ = some (.slice (some ⟨T.G, 0, none⟩) T.n T.n) ∧ w'.cell? ⟨T.t, 2, none⟩ = some (.int .i64 (most : Int)) ∧ w'.cell? ⟨T.G, s, none⟩ = some (.int .i64 (gN : Int))) (by kernel_rfl) (by kernel_rfl) rfl (by kernel_rfl) ⟨x1.1, x2.1, xg.1⟩ ?_
    iterate 12 (refine seq_read rfl (by first | rfl | (go_simp; done)) (fun w' hw => by obtain ⟨s0, s1, s2⟩ := hw; go_simp; with_reducible rfl) ?_; try simp only [Act.put, List.setIfInBounds_toArray, List.set_cons_zero, List.set_cons_succ])
    refine seq_done ?_
    clear x1 x2 xg
    replace H3 := Lib.hid H3.out.drew
    generalize w3.drew = w4 at *
    have nr := regF_not H3.out.ok
    have x0 := H3.out.c0.1
    have F4 := FrC.of_below (S := rF T) B3.out (Nat.le_refl _)
    by_cases hmg : most ≤ gN
    · have e1 : decide ((most : Int) ≤ (gN : Int)) = true := decide_eq_true (by omega)
      have e2 : decide (most ≤ gN) = true := decide_eq_true hmg
      go_wp2_with fail
      refine (set_R H3.out.R (s : Int) ⟨0, 0, 0, 0⟩).mono ?_
      rintro e w5 ⟨rfl, R, F⟩
      have x3 := F.cel _ _ _ (nr.1 _) H3.out.c3
      obtain ⟨d, hd2⟩ : ∃ z, z = P.countP (Pc.dead most) := ⟨_, rfl⟩
      rw [← hd2] at x3
      have hdb : d ≤ 256 := by rw [hd2]; exact Nat.le_trans List.countP_le_length (by omega)
      have hv : setV (vsP P) (xP most P) (s : Int) ⟨0, 0, 0, 0⟩ = (vsP P).set s ⟨0, 0, 0, 0⟩ := by
        unfold setV
        rw [hasP hs, show P[s].full most = true by unfold Pc.full; rw [his.out]; rfl]
        simp
      have hx : xP most P = (xP most P).set s (decide (most ≤ P[s].gen)) := by
        rw [← hgN.out, e2]
        have h1 : (xP most P)[s]'(by simpa using hs) = true := by
          rw [xP_at (most := most) hs]; unfold Pc.full; rw [his.out]; rfl
        have h2 := List.set_getElem_self (show s < (xP most P).length by simpa using hs)
        rw [h1] at h2
        exact h2.symm
      rw [hv] at R
      have R' : RegS rwE (w5.setCell ⟨T.t, 3, none⟩ (.int .i64 ((d : Int) + 1))) T.r T.b T.off T.n T.p T.g ((vsP P).set s ⟨0, 0, 0, 0⟩) ((xP most P).set s (decide (most ≤ P[s].gen))) := by
        rw [← hx]
        have tt := H3.out.ok.t
        exact R.frc (FrC.set w5 T.t 3 _) (fun o e => tt.1 e.1.symm) (fun o e => tt.2.1 e.1.symm) (fun o e => tt.2.2.1 e.1.symm) (fun o _ _ e => tt.2.2.2.1 e.1.symm)
      have F6 : FrC (rF T) w4 (w5.setCell ⟨T.t, 3, none⟩ (.int .i64 ((d : Int) + 1))) := (F.mono (fun i o e => .inl e)).then_ (FrC.set w5 T.t 3 _) (fun i o _ e => .inr e)
      have H6 := Lib.hid (H3.out.rev hs his.out R' F6 (by rw [← hd2, ← hgN.out, if_pos hmg]; exact x3.same _) (by
        obtain ⟨ca, e⟩ := H3.out.sh
        exact cells_set ((F.block _ H3.out.c0.lt nr.1).trans e) 3 _))
      have F7 := Lib.hid (F4.then_ F6 (fun i o _ e => e)).tabR
      have y0 := x3.1; have y1 := x3.2
      replace hd2 := Lib.hid hd2
      clear R F R' F6 F4 hx hv x3 x0 nr
      go_wp2
      go_ret
      rw [hf.out]
      refine ⟨rfl, ?_, F7.out⟩
      show TabS _ T (P.set s (P.getD s Pc.new).off) most
      rw [hgd.out]
      exact H6.out
    · have e1 : decide ((most : Int) ≤ (gN : Int)) = false := decide_eq_false (by omega)
      have e2 : decide (most ≤ gN) = false := decide_eq_false hmg
      go_wp2_with fail
      refine (give_R H3.out.R (s : Int)).mono ?_
      rintro e w5 ⟨rfl, R, F⟩
      have hfu : hasB (xP most P) (s : Int) = true := by rw [hasP hs]; unfold Pc.full; rw [his.out]; rfl
      have hv : giveV Rw.zero (vsP P) (xP most P) (s : Int) = (vsP P).set s ⟨0, 0, 0, 0⟩ := by
        unfold giveV
        rw [hfu]
        rfl
      have hx : dropL (xP most P) (s : Int) = (xP most P).set s (decide (most ≤ P[s].gen)) := by
        unfold dropL
        rw [hfu, ← hgN.out, e2]
        rfl
      rw [hv, hx] at R
      have F6 : FrC (rF T) w4 w5 := F.mono (fun i o e => .inl e)
      have H6 := Lib.hid (H3.out.rev hs his.out R F6 (by rw [← hgN.out, if_neg hmg]; exact F.cel _ _ _ (nr.1 _) H3.out.c3) (H3.out.sh.imp fun ca e => (F.block _ H3.out.c0.lt nr.1).trans e))
      have F7 := Lib.hid (F4.then_ F6 (fun i o _ e => e)).tabR
      clear R F F6 F4 hx hv hfu x0 nr
      go_wp2
      go_ret
      rw [hf.out]
      refine ⟨rfl, ?_, F7.out⟩
      show TabS _ T (P.set s (P.getD s Pc.new).off) most
      rw [hgd.out]
      exact H6.out
end Go.Proofs.YtaflekpfpdnbcaaDoor
