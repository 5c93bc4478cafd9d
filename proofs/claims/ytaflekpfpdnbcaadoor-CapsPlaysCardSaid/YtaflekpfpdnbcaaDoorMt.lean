/- A handle is made. -/
import Derived.Test.YtaflekpfpdnbcaaDoorTb
namespace Go.Proofs.YtaflekpfpdnbcaaDoor
open Go.RowKit
set_option linter.unusedVariables false
set_option linter.unusedSimpArgs false
set_option linter.unusedSectionVars false
set_option maxRecDepth 100000

def mF (T : TD) (j : Nat) : Nat → Nat → Prop := fun k o => regF rwE T.b T.off T.n T.p T.g k o ∨ (k = T.G ∧ o = j)
section
variable {w w' : World} {T : TD} {P : List Pc} {most : Nat}
theorem mF_t (h : T.Ok) (j : Nat) : ∀ o, ¬ mF T j T.t o := by
  rintro o (e | e)
  · exact (regF_not h).1 o e
  · exact h.t.2.2.2.2 e.1
theorem FrC.tab {j : Nat} (F : FrC (mF T j) w w') : FrC T.F w w' := F.mono (fun i o e => by
  rcases e with e | e
  · exact .inl e
  · exact .inr (.inr e.1))
theorem TabS.mint {w' : World} (h : TabS w T P most) {j : Nat} (hj : j < P.length) (hf : P[j].full most = false) {kind index : Int} {rights : Nat} (hr : rights < 256)
    (R : RegS rwE w' T.r T.b T.off T.n T.p T.g ((vsP P).set j ⟨(P[j].gen + 1 : Nat), kind, index, rights⟩) ((xP most P).set j true)) (F : FrC (mF T j) w w') (hc : Cel w' T.G j (.int .i64 ((P[j].gen + 1 : Nat) : Int))) :
    TabS w' T (P.set j (minted P[j] kind index rights)) most := by
  have ht := mF_t h.ok j
  have hfull : P[j].is = false ∧ P[j].gen < most := by
    unfold Pc.full at hf
    simp at hf
    exact ⟨hf.1, by omega⟩
  refine ⟨?_, F.cel _ _ _ (ht _) h.c0, F.cel _ _ _ (ht _) h.c1, F.cel _ _ _ (ht _) h.c2, ?_, fun i hi => ?_, ⟨Nat.lt_of_lt_of_le h.gb.1 F.size, Nat.lt_of_lt_of_le h.gb.2 F.size⟩, h.ok, fun x hx => ?_, h.most, h.n, h.sh.imp fun ca e => (F.block T.t h.c0.lt ht).trans e⟩
  · rw [vsP_set, xP_set]
    exact R
  · have := countP_set (Pc.dead most) P j hj (minted P[j] kind index rights)
    rw [show Pc.dead most P[j] = false by unfold Pc.dead; simp; intro _; omega, show Pc.dead most (minted P[j] kind index rights) = false from rfl] at this
    rw [show (P.set j (minted P[j] kind index rights)).countP (Pc.dead most) = P.countP (Pc.dead most) by simpa using this]
    exact F.cel _ _ _ (ht _) h.c3
  · rw [List.length_set] at hi
    by_cases e : i = j
    · subst e
      rw [List.getElem_set_self]
      exact hc
    · rw [List.getElem_set_ne (fun e' => e e'.symm)]
      refine F.cel _ _ _ ?_ (h.gc i hi)
      rintro (e1 | e1)
      · exact (regF_not h.ok).2 _ e1
      · exact e e1.2
  · rcases List.mem_or_eq_of_mem_set hx with hx | rfl
    · exact h.pc x hx
    · exact ⟨by show P[j].gen + 1 ≤ most; omega, fun _ => ⟨Nat.succ_pos _, hr⟩⟩
end

/-- What Mint answers. -/
def mintA (P : List Pc) (most : Nat) (rights : Nat) : Option Nat → Value
  | none => .tuple #[.int .u64 0, .int .i64 4]
  | some j => .tuple #[.int .u64 ((((P.getD j Pc.new).gen + 1) * 16777216 + j * 256 + rights : Nat) : Int), .int .i64 0]
def mintP (P : List Pc) (kind index : Int) (rights : Nat) : Option Nat → List Pc
  | none => P
  | some j => P.set j (minted (P.getD j Pc.new) kind index rights)

set_option maxHeartbeats 8000000 in
theorem mint_c {w : World} {T : TD} {P : List Pc} {most : Nat} (h : TabS w T P most) (hT : Tab w) (kind index rights : Int) :
    Calls Tryd.prog 11 #[.pointer (some ⟨T.t, 0, none⟩), .agg #[.int .i64 kind, .int .i64 index, .int .i64 rights]] w fun e w' => e = .returned (mintA P most (rights % 256).toNat (nextB (xP most P) false 0)) ∧ TabS w' T (mintP P kind index (rights % 256).toNat (nextB (xP most P) false 0)) most ∧ FrC T.F w w' := by
  obtain ⟨R, hR⟩ : ∃ R : Nat, R = (rights % 256).toNat := ⟨_, rfl⟩
  have hR2 : R < 256 := by omega
  have hand : bits .and .i64 rights 255 = (R : Int) := by
    have := and_mask 8 255 (by decide) (by decide) rights
    rw [this, show ((2 ^ 8 : Nat) : Int) = 256 from rfl]; omega
  rw [← hR]
  replace hR := Lib.hid hR
  have F0 := blA (Below.refl w.heap.size w) (.cells #[.int .i64 kind, .int .i64 index, .int .i64 rights] 30)
  have y0 := Cel.new w #[.int .i64 kind, .int .i64 index, .int .i64 rights] 30 0 (.int .i64 kind) rfl
  have y1 := Cel.new w #[.int .i64 kind, .int .i64 index, .int .i64 rights] 30 1 (.int .i64 index) rfl
  have y2 := Cel.new w #[.int .i64 kind, .int .i64 index, .int .i64 rights] 30 2 (.int .i64 rights) rfl
  have hT0 := Lib.hid (hT.below F0)
  have H0 := Lib.hid (h.below F0)
  have lt0 := h.R.lt
  have ltt := h.c0.lt
  have hgb := h.gb
  have hZ : Hid (w.heap.size ≠ T.p ∧ w.heap.size ≠ T.g ∧ w.heap.size ≠ T.b ∧ w.heap.size ≠ T.G ∧ w.heap.size ≠ T.t) := Lib.hid ⟨by omega, by omega, by omega, by omega, by omega⟩
  have a0 := H0.out.c0.1
  clear lt0 ltt hgb
  replace F0 := Lib.hid F0
  replace h := Lib.hid h
  have hlen := h.out.len
  have hn := h.out.n
  replace hlen := Lib.hid hlen
  go_enter Tryd.func11, Tryd.ntmps11
  go_wp2_with fail
  generalize hW : w.alloc (.cells #[.int .i64 kind, .int .i64 index, .int .i64 rights] 30) = W at *
  generalize hZb : w.heap.size = Zb at *
  replace hW := Lib.hid hW; replace hZb := Lib.hid hZb
  clear hT
  refine (take_R H0.out.R hT0.out ⟨0, 0, 0, 0⟩).mono ?_
  rintro e w2 ⟨rfl, R2, F2⟩
  cases hnx : nextB (xP most P) false 0 with
  | none =>
    have e1 := nextO_none (X := xP most P) (b := false) (k := 0) hnx
    have hv : takeV (vsP P) (xP most P) ⟨0, 0, 0, 0⟩ = vsP P := by unfold takeV; rw [hnx]
    have hx : takeX (xP most P) = xP most P := by unfold takeX; rw [hnx]
    rw [hv, hx] at R2
    rw [e1.1, e1.2]
    have nr := regF_not H0.out.ok
    have H2 := Lib.hid (show TabS w2 T P most from ⟨R2, F2.cel _ _ _ (nr.1 _) H0.out.c0, F2.cel _ _ _ (nr.1 _) H0.out.c1, F2.cel _ _ _ (nr.1 _) H0.out.c2, F2.cel _ _ _ (nr.1 _) H0.out.c3, fun i hi => F2.cel _ _ _ (nr.2 _) (H0.out.gc i hi), ⟨Nat.lt_of_lt_of_le H0.out.gb.1 F2.size, Nat.lt_of_lt_of_le H0.out.gb.2 F2.size⟩, H0.out.ok, H0.out.pc, H0.out.most, H0.out.n, H0.out.sh.imp fun ca e => (F2.block _ H0.out.c0.lt nr.1).trans e⟩)
    have FF := Lib.hid (show FrC T.F w w2 from (FrC.of_below (S := T.F) (by rw [hZb.out] at *; exact F0.out) (by rw [hZb.out]; exact Nat.le_refl _)).then_ F2 (fun i o _ e => .inl e))
    replace hnx := Lib.hid hnx
    clear e1 hv hx R2 F2 nr a0
    go_wp2
    go_ret2
    rw [hnx.out]
    exact ⟨rfl, H2.out, FF.out⟩
  | some j =>
    have e1 := nextO_some (X := xP most P) (b := false) (k := 0) hnx
    obtain ⟨hj, -, hjx, -⟩ := nextB_of hnx
    have hjP : j < P.length := by simpa using hj
    have hjn : j < T.n := by rw [← hlen.out]; exact hjP
    have hf : P[j].full most = false := by rw [← xP_at (most := most) hjP]; exact hjx
    have hv : takeV (vsP P) (xP most P) ⟨0, 0, 0, 0⟩ = (vsP P).set j ⟨0, 0, 0, 0⟩ := by unfold takeV; rw [hnx]
    have hx : takeX (xP most P) = (xP most P).set j true := by unfold takeX; rw [hnx]
    rw [hv, hx] at R2
    rw [e1.1, e1.2]
    have hg := H0.out.gens hjP
    have hmo := H0.out.most.2
    have hgd : P.getD j Pc.new = P[j] := by simp [hjP]
    replace hnx := Lib.hid hnx; replace hf := Lib.hid hf
    clear e1 hv hx hj hjx a0
    have nr := regF_not H0.out.ok
    have x0 := F2.cel _ _ _ (nr.1 _) H0.out.c0
    have x1 := F2.cel _ _ _ (nr.1 _) H0.out.c1
    have xg := F2.cel _ _ _ (nr.2 _) (H0.out.gc j hjP)
    have hz := hZ.out
    have z0 := F2.keep ⟨hz.1, hz.2.1, hz.2.2.1⟩ y0
    have z1 := F2.keep ⟨hz.1, hz.2.1, hz.2.2.1⟩ y1
    have z2 := F2.keep ⟨hz.1, hz.2.1, hz.2.2.1⟩ y2
    have F2m : FrC (mF T j) W w2 := F2.mono (fun i o e => .inl e)
    obtain ⟨gN, hgN⟩ : ∃ z, z = P[j].gen := ⟨_, rfl⟩
    rw [← hgN] at xg hg
    have hgb : gN ≤ 16777215 := by omega
    have z2' := z2.other (b' := T.G) (o' := j) (.inl (Ne.symm hz.2.2.2.1)) (.int .i64 ((gN : Int) + 1))
    have f1 := x1.1; have fg := xg.1; have fg2 := xg.2; have f2 := z2'.1; have f22 := z2'.2
    replace hZ := Lib.hid hz
    clear hz F2 y0 y1 y2 hg
    replace hgN := Lib.hid hgN; replace hgd := Lib.hid hgd; replace hlen := Lib.hid hlen
    go_wp2_with fail
    clear f1 fg fg2 f2 f22
    have tG := H0.out.ok.t.2.2.2.2
    have hz := hZ.out
    have okG := H0.out.ok.G
    have v0 := (x0.other (b' := T.G) (o' := j) (.inl (Ne.symm tG)) (.int .i64 ((gN : Int) + 1))).other (b' := Zb) (o' := 2) (.inl hz.2.2.2.2) (.int .i64 (R : Int))
    have v1 := (x1.other (b' := T.G) (o' := j) (.inl (Ne.symm tG)) (.int .i64 ((gN : Int) + 1))).other (b' := Zb) (o' := 2) (.inl hz.2.2.2.2) (.int .i64 (R : Int))
    have vg := (xg.same (.int .i64 ((gN : Int) + 1))).other (b' := Zb) (o' := 2) (.inl hz.2.2.2.1) (.int .i64 (R : Int))
    have u0 := (z0.other (b' := T.G) (o' := j) (.inl (Ne.symm hz.2.2.2.1)) (.int .i64 ((gN : Int) + 1))).other (b' := Zb) (o' := 2) (.inr (by decide)) (.int .i64 (R : Int))
    have u1 := (z1.other (b' := T.G) (o' := j) (.inl (Ne.symm hz.2.2.2.1)) (.int .i64 ((gN : Int) + 1))).other (b' := Zb) (o' := 2) (.inr (by decide)) (.int .i64 (R : Int))
    have u2 := z2'.same (.int .i64 (R : Int))
    have F4 : FrC (mF T j) w ((w2.setCell ⟨T.G, j, none⟩ (.int .i64 ((gN : Int) + 1))).setCell ⟨Zb, 2, none⟩ (.int .i64 (R : Int))) :=
      (((FrC.of_below (S := mF T j) (by have := F0.out; rw [← hZb.out] at this; exact this) (Nat.le_refl _)).then_ F2m (fun _ _ _ e => e)).then_ (FrC.set w2 T.G j _) (fun i o _ e => .inr e)).then_ (FrC.set _ Zb 2 _) (fun i o hi e => by rw [hZb.out] at hi; omega)
    have R4 : RegS rwE ((w2.setCell ⟨T.G, j, none⟩ (.int .i64 ((gN : Int) + 1))).setCell ⟨Zb, 2, none⟩ (.int .i64 (R : Int))) T.r T.b T.off T.n T.p T.g ((vsP P).set j ⟨0, 0, 0, 0⟩) ((xP most P).set j true) := by
      have hrZ : T.r ≠ Zb := by have := h.out.R.lt; rw [hZb.out] at this; omega
      exact (R2.frc (FrC.set w2 T.G j _) (fun o e => okG.1 e.1.symm) (fun o e => okG.2.1 e.1.symm) (fun o e => okG.2.2.1 e.1.symm) (fun o _ _ e => okG.2.2.2 e.1.symm)).frc (FrC.set _ Zb 2 _) (fun o e => hrZ e.1) (fun o e => hz.1 e.1.symm) (fun o e => hz.2.1 e.1.symm) (fun o _ _ e => hz.2.2.1 e.1.symm)
    generalize ((w2.setCell ⟨T.G, j, none⟩ (.int .i64 ((gN : Int) + 1))).setCell ⟨Zb, 2, none⟩ (.int .i64 (R : Int))) = w4 at *
    clear x0 x1 xg z0 z1 z2 z2' R2 F2m tG nr
    refine seq_start [(0, true), (1, true), (2, true), (3, true), (4, true), (5, true), (6, true), (7, true), (8, true), (9, true), (10, true), (11, true), (12, true), (13, true), (14, false)] (fun w' => w'.cell? ⟨T.t, 0, none⟩ = some (.pointer (some ⟨T.r, 0, none⟩)) ∧ w'.cell? ⟨T.t, 1, none⟩ = some (.slice (some ⟨T.G, 0, none⟩) T.n T.n) ∧ w'.cell? ⟨T.G, j, none⟩ = some (.int .i64 ((gN : Int) + 1)) ∧ w'.cell? ⟨Zb, 0, none⟩ = some (.int .i64 kind) ∧ w'.cell? ⟨Zb, 1, none⟩ = some (.int .i64 index) ∧ w'.cell? ⟨Zb, 2, none⟩ = some (.int .i64 (R : Int))) (by kernel_rfl) (by kernel_rfl) rfl (by kernel_rfl) ⟨v0.1, v1.1, vg.1, u0.1, u1.1, u2.1⟩ ?_
    iterate 14 (refine seq_read rfl (by first | rfl | (go_simp; done)) (fun w' hw => by obtain ⟨s0, s1, s2, s3, s4, s5⟩ := hw; go_simp; with_reducible rfl) ?_; try simp only [Act.put, List.setIfInBounds_toArray, List.set_cons_zero, List.set_cons_succ])
    replace v0 := v0.drew; replace v1 := v1.drew; replace vg := vg.drew; replace u0 := u0.drew; replace u1 := u1.drew; replace u2 := u2.drew
    replace R4 := R4.drew
    replace F4 := F4.drewF
    generalize w4.drew = w5 at *
    refine seq_call rfl (fun K hK => ?_)
    go_simp
    refine (set_R R4 (j : Int) ⟨(gN : Int) + 1, kind, index, R⟩).mono ?_
    rintro e w6 ⟨rfl, R6, F6⟩
    have tt := H0.out.ok.t
    have hzz := And.intro hz.1 (And.intro hz.2.1 hz.2.2.1)
    have v0' := F6.keep ⟨tt.2.1, tt.2.2.1, tt.2.2.2.1⟩ v0
    have v1' := F6.keep ⟨tt.2.1, tt.2.2.1, tt.2.2.2.1⟩ v1
    have vg' := F6.keep ⟨okG.2.1, okG.2.2.1, okG.2.2.2⟩ vg
    have u0' := F6.keep hzz u0
    have u1' := F6.keep hzz u1
    have u2' := F6.keep hzz u2
    have hR6 : setV ((vsP P).set j ⟨0, 0, 0, 0⟩) ((xP most P).set j true) (j : Int) ⟨(gN : Int) + 1, kind, index, R⟩ = (vsP P).set j ⟨(P[j].gen + 1 : Nat), kind, index, R⟩ := by
      unfold setV
      rw [show hasB ((xP most P).set j true) (j : Int) = true by
        rw [hasB_nat (by rw [List.length_set]; simpa using hjP), List.getElem_set_self]]
      simp [hgN.out]
    rw [hR6] at R6
    have H6 := Lib.hid (h.out.mint (w' := w6) hjP hf.out hR2 R6 (F4.then_ F6 (fun i o _ e => .inl e)) (by rw [← hgN.out]; exact vg'))
    have F7 := Lib.hid (FrC.tab (F4.then_ F6 (fun i o _ e => .inl e)))
    refine hK.out _ _ ⟨v0'.1, v1'.1, vg'.1, u0'.1, u1'.1, u2'.1⟩ ?_
    clear hK K R4 R6 F6 F4 v0 v1 vg u0 u1 u2 hR6 v0' u0' u1' hzz tt okG hz
    try simp only [Act.put, List.setIfInBounds_toArray, List.set_cons_zero, List.set_cons_succ]
    refine seq_done ?_
    go_wp2_with fail
    refine seq_start [(0, true), (1, true), (2, true), (3, true), (4, true), (5, true), (6, true), (7, true), (8, true), (9, true), (10, false), (11, true), (12, true)] (fun w' => w'.cell? ⟨T.t, 1, none⟩ = some (.slice (some ⟨T.G, 0, none⟩) T.n T.n) ∧ w'.cell? ⟨T.G, j, none⟩ = some (.int .i64 ((gN : Int) + 1)) ∧ w'.cell? ⟨Zb, 2, none⟩ = some (.int .i64 (R : Int))) (by kernel_rfl) (by kernel_rfl) rfl (by kernel_rfl) ⟨v1'.1, vg'.1, u2'.1⟩ ?_
    iterate 10 (refine seq_read rfl (by first | rfl | (go_simp; done)) (fun w' hw => by obtain ⟨s0, s1, s2⟩ := hw; go_simp; with_reducible rfl) ?_; try simp only [Act.put, List.setIfInBounds_toArray, List.set_cons_zero, List.set_cons_succ])
    replace v1' := v1'.drew; replace vg' := vg'.drew; replace u2' := u2'.drew
    replace H6 := Lib.hid H6.out.drew
    replace F7 := Lib.hid F7.out.drewF
    generalize w6.drew = w7 at *
    refine seq_call rfl (fun K hK => ?_)
    go_simp
    have hpk := pack_c w7 j (gN + 1) (R : Int) (by omega) (by omega)
    rw [show ((gN + 1 : Nat) : Int) = (gN : Int) + 1 by omega, show ((R : Int) % 256).toNat = R by omega] at hpk
    refine hpk.mono ?_
    rintro e w8 ⟨rfl, rfl⟩
    refine hK.out _ _ ⟨v1'.1, vg'.1, u2'.1⟩ ?_
    clear hK K hpk
    try simp only [Act.put, List.setIfInBounds_toArray, List.set_cons_zero, List.set_cons_succ]
    iterate 2 (refine seq_read rfl (by first | rfl | (go_simp; done)) (fun w' hw => by obtain ⟨s0, s1, s2⟩ := hw; go_simp; with_reducible rfl) ?_; try simp only [Act.put, List.setIfInBounds_toArray, List.set_cons_zero, List.set_cons_succ])
    refine seq_done ?_
    clear v1' vg' u2'
    go_wp2
    go_ret2
    rw [hnx.out]
    refine ⟨?_, ?_, F7.out⟩
    · show Ending.returned (.tuple #[.int .u64 (((gN : Int) + 1) * 16777216 + (j : Int) * 256 + (R : Int)), .int .i64 0]) = Ending.returned (.tuple #[.int .u64 ((((P.getD j Pc.new).gen + 1) * 16777216 + j * 256 + R : Nat) : Int), .int .i64 0])
      rw [hgd.out, ← hgN.out, show (((gN + 1) * 16777216 + j * 256 + R : Nat) : Int) = ((gN : Int) + 1) * 16777216 + (j : Int) * 256 + (R : Int) by omega]
    · show TabS _ T (P.set j (minted (P.getD j Pc.new) kind index R)) most
      rw [hgd.out]
      exact H6.out
end Go.Proofs.YtaflekpfpdnbcaaDoor
