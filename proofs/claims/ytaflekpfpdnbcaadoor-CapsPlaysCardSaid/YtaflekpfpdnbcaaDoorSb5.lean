/- Is a table the document's? The walk. -/
import Derived.Test.YtaflekpfpdnbcaaDoorSa5
import Derived.Test.YtaflekpfpdnbcaaDoorSeq
namespace Go.Proofs.YtaflekpfpdnbcaaDoor
open Go.RowKit
set_option linter.unusedVariables false
set_option linter.unusedSimpArgs false
set_option linter.unusedSectionVars false
set_option maxRecDepth 100000

/-- All that a table and the document's lie in is below a block. -/
structure SaO (B : Nat) (T : TD) (P : List Pc) (A : Option Addr) : Prop where
  t : T.t < B ∧ T.r < B ∧ T.b < B ∧ T.p < B ∧ T.g < B ∧ T.G < B
  tab : 0 < B
  a : ∀ i (hi : i < P.length), ∃ b off, A = some ⟨b, off, none⟩ ∧ b < B
theorem SaS.old {w : World} {T : TD} {P : List Pc} {most n c : Nat} {A : Option Addr} (h : SaS w T P most n c A) : SaO w.heap.size T P A :=
  ⟨⟨h.S.c0.lt, h.S.R.lt.1, h.S.gb.2, h.S.R.lt.2.1, h.S.R.lt.2.2, h.S.gb.1⟩, h.T0.lt, fun i hi => by obtain ⟨b, off, e, hb, -⟩ := h.R i hi; exact ⟨b, off, e, hb⟩⟩
theorem SaS.side {Sf : Nat → Prop} {w w' : World} {T : TD} {P : List Pc} {most n c B : Nat} {A : Option Addr} (h : SaS w T P most n c A) (o : SaO B T P A) (F : FrB Sf w w') (hS : ∀ k, k < B → ¬ Sf k) : SaS w' T P most n c A := by
  have FC := FrC.of_frb F
  refine ⟨h.S.frc FC (fun k hk _ => ?_), h.T0.frc FC (fun _ => hS _ o.tab), fun i hi => ?_, h.n⟩
  · obtain ⟨o1, o2, o3, o4, o5, o6⟩ := o.t
    rcases hk with rfl | rfl | rfl | rfl | rfl | rfl
    · exact hS _ o1
    · exact hS _ o2
    · exact hS _ o3
    · exact hS _ o4
    · exact hS _ o5
    · exact hS _ o6
  · obtain ⟨b, off, e, hb, hc⟩ := h.R i hi
    obtain ⟨b2, off2, e2, hb2⟩ := o.a i hi
    rw [e] at e2
    injection e2 with e2
    injection e2 with e3 e4
    subst e3
    exact ⟨b, off, e, Nat.lt_of_lt_of_le hb F.size, fun j v hj => (World.cell?_of_block (F.block b hb (hS b hb2))).trans (hc j v hj)⟩

set_option maxHeartbeats 16000000 in
theorem same_t {w : World} {T : TD} {P : List Pc} {most n c : Nat} {A : Option Addr} (h : SaS w T P most n c A) (kind rights : Int) {hd : Nat} (hh : hd < 18446744073709551616) :
    Calls Tryd.prog 29 #[.pointer (some ⟨T.t, 0, none⟩), .agg #[.slice A n c, .int .i64 most], .int .u64 hd, .int .i64 kind, .int .i64 rights] w fun e w' => e = .returned (.bool true) ∧ Below w.heap.size w w' := by
  obtain ⟨idx, hidx⟩ : ∃ i : Int, i = (match findP P hd with | some s => (P.getD s Pc.new).index | none => 0) := ⟨_, rfl⟩
  obtain ⟨cnt, ded, cof, DC⟩ := docC w h kind rights hh idx
  replace DC := Lib.hid DC
  have F1 := blA (Below.refl w.heap.size w) (.cells #[.slice A n c, .int .i64 most] 65)
  have F2 := blA F1 (.cells #[.int .i64 0, .int .i64 0, .int .i64 0] 30)
  have x0 : Cel ((w.alloc (.cells #[.slice A n c, .int .i64 most] 65)).alloc (.cells #[.int .i64 0, .int .i64 0, .int .i64 0] 30)) w.heap.size 0 (.slice A n c) := (Cel.new w _ _ 0 _ rfl).alloc _
  have x1 : Cel ((w.alloc (.cells #[.slice A n c, .int .i64 most] 65)).alloc (.cells #[.int .i64 0, .int .i64 0, .int .i64 0] 30)) w.heap.size 1 (.int .i64 most) := (Cel.new w _ _ 1 _ rfl).alloc _
  have v0 := Cel.new (w.alloc (.cells #[.slice A n c, .int .i64 most] 65)) #[.int .i64 0, .int .i64 0, .int .i64 0] 30 0 (.int .i64 0) rfl
  have v1 := Cel.new (w.alloc (.cells #[.slice A n c, .int .i64 most] 65)) #[.int .i64 0, .int .i64 0, .int .i64 0] 30 1 (.int .i64 0) rfl
  have v2 := Cel.new (w.alloc (.cells #[.slice A n c, .int .i64 most] 65)) #[.int .i64 0, .int .i64 0, .int .i64 0] 30 2 (.int .i64 0) rfl
  rw [World.size_alloc] at v0 v1 v2
  have H1 := Lib.hid (h.below F2)
  have hold := Lib.hid h.old
  have W1 := Lib.hid F2
  have xs0 := Lib.hid (And.intro (And.intro x0 x1) (And.intro v0 (And.intro v1 v2)))
  have x0a := x0.1; have x1a := x1.1
  have eqc := eqCap
  clear h F1 F2 x0 x1 v0 v1 v2
  go_enter Tryd.func29, Tryd.ntmps29
  go_wp2_with fail
  generalize (w.alloc (.cells #[.slice A n c, .int .i64 most] 65)).alloc (.cells #[.int .i64 0, .int .i64 0, .int .i64 0] 30) = w1 at *
  have hszw := W1.out.size
  generalize hX : w.heap.size = X at *
  replace hX := Lib.hid hX
  obtain ⟨Wb, hWb⟩ : ∃ Wb, Wb = X + 1 := ⟨_, rfl⟩
  rw [← hWb] at xs0 ⊢
  replace hWb := Lib.hid hWb
  refine (DC.out.find _ H1.out).mono ?_
  rintro e w2 ⟨rfl, F⟩
  have FB := FrB.of_below (S := fun _ => False) F (Nat.le_refl _)
  obtain ⟨⟨x0, x1⟩, v0, v1, v2⟩ := xs0.out
  replace x0 := x0.frb FB (fun h => h); replace x1 := x1.frb FB (fun h => h); replace v0 := v0.frb FB (fun h => h); replace v1 := v1.frb FB (fun h => h); replace v2 := v2.frb FB (fun h => h)
  have H2 := Lib.hid (H1.out.below F)
  have W2 := Lib.hid (W1.out.trans (F.mono hszw))
  clear FB F x0a x1a xs0 H1 W1
  cases hf : findP P hd with
  | none =>
    have ei : findI P hd = -1 := by unfold findI; rw [hf]
    rw [ei]
    rw [hf] at hidx
    simp only at hidx
    subst hidx
    have lk := DC.out.look _ H2.out
    rw [hf] at lk
    have ha : lookA P none = .tuple #[.agg #[.int .i64 0, .int .i64 0, .int .i64 0], .int .i64 5] := rfl
    rw [ha] at lk
    replace lk := Lib.hid lk
    have xs2 := Lib.hid (And.intro (And.intro x0 x1) (And.intro v0 (And.intro v1 v2)))
    clear ei ha x0 x1 v0 v1 v2
    replace hf := Lib.hid hf
    go_wp2_with fail
    refine lk.out.mono ?_
    rintro e w3 ⟨rfl, F⟩
    have FB := FrB.of_below (S := fun _ => False) F (Nat.le_refl _)
    obtain ⟨⟨x0, x1⟩, v0, v1, v2⟩ := xs2.out
    replace x0 := x0.frb FB (fun h => h); replace x1 := x1.frb FB (fun h => h); replace v0 := v0.frb FB (fun h => h); replace v1 := v1.frb FB (fun h => h); replace v2 := v2.frb FB (fun h => h)
    have FA := blA (Below.refl w3.heap.size w3) (.cells #[.int .i64 0, .int .i64 0, .int .i64 0] 30)
    have HA := Lib.hid ((H2.out.below F).below FA)
    have BW := Lib.hid ((W2.out.trans (F.mono (by have := W2.out.size; have := hX.out; omega))).trans (FA.mono (by have := W2.out.size; have := F.size; have := hX.out; omega)))
    have xc := Lib.hid (And.intro (x0.alloc (.cells #[.int .i64 0, .int .i64 0, .int .i64 0] 30)) (And.intro (x1.alloc (.cells #[.int .i64 0, .int .i64 0, .int .i64 0] 30)) (v1.alloc (.cells #[.int .i64 0, .int .i64 0, .int .i64 0] 30))))
    have v0a := v0.1; have v1a := v1.1; have v2a := v2.1
    have wl := v0.lt
    have wln : ¬ (Wb = w3.heap.size) := by omega
    have xlt := xc.out.1.lt
    have wlt := xc.out.2.2.lt
    clear FB F FA x0 x1 v0 v1 v2 lk xs2 H2 W2
    have bwl := Lib.hid (show X ≤ (w3.alloc (.cells #[.int .i64 0, .int .i64 0, .int .i64 0] 30)).heap.size from by omega)
    go_wp2_with fail
    generalize w3.alloc (.cells #[.int .i64 0, .int .i64 0, .int .i64 0] 30) = wa at *
    refine (DC.out.need1 _ HA.out).mono ?_
    rintro e wb ⟨rfl, F⟩
    have HB := Lib.hid (HA.out.below F)
    have BB := Lib.hid (F)
    have y0 := (F.cell (p := ⟨X, 0, none⟩) xlt).trans xc.out.1.1
    have y1 := (F.cell (p := ⟨X, 1, none⟩) xlt).trans xc.out.2.1.1
    clear F
    go_wp2_with fail
    refine (DC.out.need2 _ HB.out).mono ?_
    rintro e wc ⟨rfl, F⟩
    have H0 := Lib.hid (HB.out.below F).drew
    have BC := Lib.hid (BB.out.trans (F.mono BB.out.size))
    clear F y0 y1 HB BB
    generalize needA P kind rights (findP P hd) = na at *
    obtain ⟨na1, na2⟩ := na
    have en1 : (na1 == na1) = true := by simp
    have en2 : (na2 == na2) = true := by simp
    have ec : ((cnt : Int) == (cnt : Int)) = true := by simp
    have ed : ((ded : Int) == (ded : Int)) = true := by simp
    have eo : ((cof : Int) == (cof : Int)) = true := by simp
    dsimp only
    go_wp2_with fail
    have KB := Lib.hid (show ∀ w' : World, Below wa.heap.size wa w' → (w'.cell? ⟨X, 0, none⟩ = some (.slice A n c) ∧ w'.cell? ⟨X, 1, none⟩ = some (.int .i64 most) ∧ w'.cell? ⟨Wb, 1, none⟩ = some (.int .i64 0)) from fun w' F => ⟨(F.cell (p := ⟨X, 0, none⟩) xlt).trans xc.out.1.1, (F.cell (p := ⟨X, 1, none⟩) xlt).trans xc.out.2.1.1, (F.cell (p := ⟨Wb, 1, none⟩) wlt).trans xc.out.2.2.1⟩)
    have B0 := Lib.hid (show Below wa.heap.size wa wc.drew from ⟨BC.out.os, BC.out.tape, BC.out.output, BC.out.size, BC.out.block⟩)
    refine seq_start [(0, true), (1, true), (2, true), (3, true), (4, true), (5, true), (6, true), (7, true), (8, true), (9, true), (11, true), (10, false), (12, false), (13, true), (14, true), (15, true), (16, true), (17, true), (19, true), (18, false), (20, false), (21, true), (22, true), (23, true), (24, true), (26, true), (25, false), (27, false), (28, false), (29, true), (30, true), (31, true), (32, true), (33, true), (34, true), (36, true), (37, true), (38, true), (39, true), (35, false), (40, false), (41, true), (42, true), (43, true)] (fun w' => w'.cell? ⟨X, 0, none⟩ = some (.slice A n c) ∧ w'.cell? ⟨X, 1, none⟩ = some (.int .i64 most) ∧ w'.cell? ⟨Wb, 1, none⟩ = some (.int .i64 0)) (by kernel_rfl) (by kernel_rfl) rfl (by kernel_rfl) (KB.out _ B0.out) ?_
    iterate 11 (refine seq_read rfl (by first | rfl | (go_simp; done)) (fun w' hw => by obtain ⟨s0, s1, s2⟩ := hw; go_simp; with_reducible rfl) ?_; try simp only [Act.put, List.setIfInBounds_toArray, List.set_cons_zero, List.set_cons_succ])
    generalize wc.drew = w0 at *
    refine seq_call rfl (fun K hK => ?_)
    go_simp
    refine (DC.out.count _ H0.out).mono ?_
    rintro e w1 ⟨rfl, F⟩
    have H1 := Lib.hid (H0.out.below F)
    have B1 := Lib.hid (B0.out.trans (F.mono B0.out.size))
    refine hK.out _ _ (KB.out _ B1.out) ?_
    clear hK K
    try simp only [Act.put, List.setIfInBounds_toArray, List.set_cons_zero, List.set_cons_succ]
    refine seq_call rfl (fun K hK => ?_)
    go_simp
    refine (DC.out.live2 _ H1.out).mono ?_
    rintro e w2 ⟨A2, c2, rfl, -, F⟩
    have H2 := Lib.hid (H1.out.below F)
    have B2 := Lib.hid (B1.out.trans (F.mono B1.out.size))
    refine hK.out _ _ (KB.out _ B2.out) ?_
    clear hK K
    try simp only [Act.put, List.setIfInBounds_toArray, List.set_cons_zero, List.set_cons_succ]
    iterate 6 (refine seq_read rfl (by first | rfl | (go_simp; done)) (fun w' hw => by obtain ⟨s0, s1, s2⟩ := hw; go_simp; with_reducible rfl) ?_; try simp only [Act.put, List.setIfInBounds_toArray, List.set_cons_zero, List.set_cons_succ])
    refine seq_call rfl (fun K hK => ?_)
    go_simp
    refine (DC.out.dead1 _ H2.out).mono ?_
    rintro e w102 ⟨rfl, rfl⟩
    refine hK.out _ _ (KB.out _ B2.out) ?_
    clear hK K
    try simp only [Act.put, List.setIfInBounds_toArray, List.set_cons_zero, List.set_cons_succ]
    refine seq_call rfl (fun K hK => ?_)
    go_simp
    refine (DC.out.dead2 _ H2.out).mono ?_
    rintro e w3 ⟨rfl, F⟩
    have H3 := Lib.hid (H2.out.below F)
    have B3 := Lib.hid (B2.out.trans (F.mono B2.out.size))
    refine hK.out _ _ (KB.out _ B3.out) ?_
    clear hK K
    try simp only [Act.put, List.setIfInBounds_toArray, List.set_cons_zero, List.set_cons_succ]
    iterate 5 (refine seq_read rfl (by first | rfl | (go_simp; done)) (fun w' hw => by obtain ⟨s0, s1, s2⟩ := hw; go_simp; with_reducible rfl) ?_; try simp only [Act.put, List.setIfInBounds_toArray, List.set_cons_zero, List.set_cons_succ])
    refine seq_call rfl (fun K hK => ?_)
    go_simp
    refine (DC.out.live1 _ H3.out).mono ?_
    rintro e w4 ⟨A4, c4, rfl, R4, F⟩
    have H4 := Lib.hid (H3.out.below F)
    have B4 := Lib.hid (B3.out.trans (F.mono B3.out.size))
    refine hK.out _ _ (KB.out _ B4.out) ?_
    clear hK K
    try simp only [Act.put, List.setIfInBounds_toArray, List.set_cons_zero, List.set_cons_succ]
    refine seq_call rfl (fun K hK => ?_)
    go_simp
    refine (DC.out.live2 _ H4.out).mono ?_
    rintro e w5 ⟨A5, c5, rfl, R5, F⟩
    have F4s := Lib.hid F
    have H5 := Lib.hid (H4.out.below F)
    have B5 := Lib.hid (B4.out.trans (F.mono B4.out.size))
    refine hK.out _ _ (KB.out _ B5.out) ?_
    clear hK K
    try simp only [Act.put, List.setIfInBounds_toArray, List.set_cons_zero, List.set_cons_succ]
    refine seq_call rfl (fun K hK => ?_)
    go_simp
    refine (DC.out.same _ A4 A5 c4 c5 (R4.below F4s.out) R5).mono ?_
    rintro e w6 ⟨rfl, F⟩
    have H6 := Lib.hid (H5.out.below F)
    have B6 := Lib.hid (B5.out.trans (F.mono B5.out.size))
    refine hK.out _ _ (KB.out _ B6.out) ?_
    clear hK K
    try simp only [Act.put, List.setIfInBounds_toArray, List.set_cons_zero, List.set_cons_succ]
    iterate 10 (refine seq_read rfl (by first | rfl | (go_simp; done)) (fun w' hw => by obtain ⟨s0, s1, s2⟩ := hw; go_simp; with_reducible rfl) ?_; try simp only [Act.put, List.setIfInBounds_toArray, List.set_cons_zero, List.set_cons_succ])
    refine seq_call rfl (fun K hK => ?_)
    go_simp
    refine (DC.out.of1 _ H6.out).mono ?_
    rintro e w7 ⟨rfl, F⟩
    have H7 := Lib.hid (H6.out.below F)
    have B7 := Lib.hid (B6.out.trans (F.mono B6.out.size))
    refine hK.out _ _ (KB.out _ B7.out) ?_
    clear hK K
    try simp only [Act.put, List.setIfInBounds_toArray, List.set_cons_zero, List.set_cons_succ]
    refine seq_call rfl (fun K hK => ?_)
    go_simp
    refine (DC.out.of2 _ H7.out).mono ?_
    rintro e w8 ⟨rfl, F⟩
    have H8 := Lib.hid (H7.out.below F)
    have B8 := Lib.hid (B7.out.trans (F.mono B7.out.size))
    refine hK.out _ _ (KB.out _ B8.out) ?_
    clear hK K
    try simp only [Act.put, List.setIfInBounds_toArray, List.set_cons_zero, List.set_cons_succ]
    iterate 3 (refine seq_read rfl (by first | rfl | (go_simp; done)) (fun w' hw => by obtain ⟨s0, s1, s2⟩ := hw; go_simp; with_reducible rfl) ?_; try simp only [Act.put, List.setIfInBounds_toArray, List.set_cons_zero, List.set_cons_succ])
    refine seq_done ?_
    go_wp2
    go_ret
    refine ⟨rfl, ?_⟩
    rw [hX.out]
    exact BW.out.trans (B8.out.mono bwl.out)
  | some s =>
    obtain ⟨-, hs, -⟩ := findP_some hf
    have ei : findI P hd = s := by unfold findI; rw [hf]
    rw [ei]
    have hsn : s < n := by rw [H2.out.n]; exact hs
    have hn256 : n ≤ 256 := by have := H2.out.S.n; have := H2.out.S.len; have := H2.out.n; omega
    rw [hf] at hidx
    simp only at hidx
    have hgd : P.getD s Pc.new = P[s] := by simp [hs]
    rw [hgd] at hidx
    have lk := fun w' (H : SaS w' T P most n c A) => DC.out.look w' H
    have ha : lookA P (some s) = .tuple #[.agg #[.int .i64 P[s].kind, .int .i64 P[s].index, .int .i64 (P[s].rights : Nat)], .int .i64 0] := by
      unfold lookA
      simp only [hgd]
    rw [hf, ha] at lk
    obtain ⟨b, off, rfl, hbl, c0, c1, c2, c3, c4⟩ := H2.out.R.pc5 hs
    subst hidx
    generalize P[s].kind = ck at *
    generalize P[s].index = ci at *
    generalize P[s].rights = cr at *
    replace lk := Lib.hid lk
    have x0a := x0.1; have x1a := x1.1
    have v0a := v0.1; have v1a := v1.1; have v2a := v2.1; have v0b := v0.2; have v1b := v1.2; have v2b := v2.2
    have u0 := Lib.hid (((v0.same (.int .i64 ck)).other (b' := Wb) (o' := 1) (.inr (by decide)) (.int .i64 ci)).other (b' := Wb) (o' := 2) (.inr (by decide)) (.int .i64 (cr : Nat)))
    have u1 := Lib.hid (((v1.other (b' := Wb) (o' := 0) (.inr (by decide)) (.int .i64 ck)).same (.int .i64 ci)).other (b' := Wb) (o' := 2) (.inr (by decide)) (.int .i64 (cr : Nat)))
    have u2 := Lib.hid (((v2.other (b' := Wb) (o' := 0) (.inr (by decide)) (.int .i64 ck)).other (b' := Wb) (o' := 1) (.inr (by decide)) (.int .i64 ci)).same (.int .i64 (cr : Nat)))
    have hXW : ¬ (Wb = X) := by have := hWb.out; omega
    have y0' := Lib.hid (((x0.other (b' := Wb) (o' := 0) (.inl hXW) (.int .i64 ck)).other (b' := Wb) (o' := 1) (.inl hXW) (.int .i64 ci)).other (b' := Wb) (o' := 2) (.inl hXW) (.int .i64 (cr : Nat)))
    have y1' := Lib.hid (((x1.other (b' := Wb) (o' := 0) (.inl hXW) (.int .i64 ck)).other (b' := Wb) (o' := 1) (.inl hXW) (.int .i64 ci)).other (b' := Wb) (o' := 2) (.inl hXW) (.int .i64 (cr : Nat)))
    have FW : FrB (fun k => k = Wb) w2 (((w2.setCell ⟨Wb, 0, none⟩ (.int .i64 ck)).setCell ⟨Wb, 1, none⟩ (.int .i64 ci)).setCell ⟨Wb, 2, none⟩ (.int .i64 (cr : Nat))) := (((FrB.set w2 ⟨Wb, 0, none⟩ _).then_ (FrB.set _ ⟨Wb, 1, none⟩ _) (fun _ _ h => h))).then_ (FrB.set _ ⟨Wb, 2, none⟩ _) (fun _ _ h => h)
    have H3 := Lib.hid (H2.out.side hold.out FW (fun k hk e => by have := hWb.out; omega))
    have W3 := Lib.hid ((((W2.out.setCell (p := ⟨Wb, 0, none⟩) (by have := hWb.out; show X ≤ Wb; omega) (.int .i64 ck)).setCell (p := ⟨Wb, 1, none⟩) (by have := hWb.out; show X ≤ Wb; omega) (.int .i64 ci)).setCell (p := ⟨Wb, 2, none⟩) (by have := hWb.out; show X ≤ Wb; omega) (.int .i64 (cr : Nat))))
    clear ei ha hgd x0 x1 v0 v1 v2 FW H2 W2
    replace hf := Lib.hid hf
    go_wp2_with fail
    generalize ((w2.setCell ⟨Wb, 0, none⟩ (.int .i64 ck)).setCell ⟨Wb, 1, none⟩ (.int .i64 ci)).setCell ⟨Wb, 2, none⟩ (.int .i64 (cr : Nat)) = w2b at *
    clear x0a x1a v0a v1a v2a v0b v1b v2b c0 c1 c2 c3 c4
    refine (lk.out _ H3.out).mono ?_
    rintro e w3 ⟨rfl, F⟩
    have FB := FrB.of_below (S := fun _ => False) F (Nat.le_refl _)
    have x0 := y0'.out.frb FB (fun h => h); have x1 := y1'.out.frb FB (fun h => h); have v0 := u0.out.frb FB (fun h => h); have v1 := u1.out.frb FB (fun h => h); have v2 := u2.out.frb FB (fun h => h)
    have FA := blA (Below.refl w3.heap.size w3) (.cells #[.int .i64 ck, .int .i64 ci, .int .i64 (cr : Nat)] 30)
    have HA := Lib.hid ((H3.out.below F).below FA)
    have BW := Lib.hid ((W3.out.trans (F.mono (by have := W3.out.size; have := hX.out; omega))).trans (FA.mono (by have := W3.out.size; have := F.size; have := hX.out; omega)))
    have xc := Lib.hid (And.intro (x0.alloc (.cells #[.int .i64 ck, .int .i64 ci, .int .i64 (cr : Nat)] 30)) (And.intro (x1.alloc (.cells #[.int .i64 ck, .int .i64 ci, .int .i64 (cr : Nat)] 30)) (v1.alloc (.cells #[.int .i64 ck, .int .i64 ci, .int .i64 (cr : Nat)] 30))))
    have v0a := v0.1; have v1a := v1.1; have v2a := v2.1
    have wl := v0.lt
    have wln : ¬ (Wb = w3.heap.size) := by omega
    have xlt := xc.out.1.lt
    have wlt := xc.out.2.2.lt
    clear FB F FA x0 x1 v0 v1 v2 lk u0 u1 u2 y0' y1' H3 W3
    have bwl := Lib.hid (show X ≤ (w3.alloc (.cells #[.int .i64 ck, .int .i64 ci, .int .i64 (cr : Nat)] 30)).heap.size from by omega)
    go_wp2_with fail
    generalize w3.alloc (.cells #[.int .i64 ck, .int .i64 ci, .int .i64 (cr : Nat)] 30) = wa at *
    refine (DC.out.need1 _ HA.out).mono ?_
    rintro e wb ⟨rfl, F⟩
    have HB := Lib.hid (HA.out.below F)
    have BB := Lib.hid (F)
    have y0 := (F.cell (p := ⟨X, 0, none⟩) xlt).trans xc.out.1.1
    have y1 := (F.cell (p := ⟨X, 1, none⟩) xlt).trans xc.out.2.1.1
    clear F
    go_wp2_with fail
    refine (DC.out.need2 _ HB.out).mono ?_
    rintro e wc ⟨rfl, F⟩
    have H0 := Lib.hid (HB.out.below F).drew
    have BC := Lib.hid (BB.out.trans (F.mono BB.out.size))
    clear F y0 y1 HB BB
    generalize needA P kind rights (findP P hd) = na at *
    obtain ⟨na1, na2⟩ := na
    have en1 : (na1 == na1) = true := by simp
    have en2 : (na2 == na2) = true := by simp
    have ec : ((cnt : Int) == (cnt : Int)) = true := by simp
    have ed : ((ded : Int) == (ded : Int)) = true := by simp
    have eo : ((cof : Int) == (cof : Int)) = true := by simp
    dsimp only
    go_wp2_with fail
    have KB := Lib.hid (show ∀ w' : World, Below wa.heap.size wa w' → (w'.cell? ⟨X, 0, none⟩ = some (.slice (some ⟨b, off, none⟩) n c) ∧ w'.cell? ⟨X, 1, none⟩ = some (.int .i64 most) ∧ w'.cell? ⟨Wb, 1, none⟩ = some (.int .i64 ci)) from fun w' F => ⟨(F.cell (p := ⟨X, 0, none⟩) xlt).trans xc.out.1.1, (F.cell (p := ⟨X, 1, none⟩) xlt).trans xc.out.2.1.1, (F.cell (p := ⟨Wb, 1, none⟩) wlt).trans xc.out.2.2.1⟩)
    have B0 := Lib.hid (show Below wa.heap.size wa wc.drew from ⟨BC.out.os, BC.out.tape, BC.out.output, BC.out.size, BC.out.block⟩)
    refine seq_start [(0, true), (1, true), (2, true), (3, true), (4, true), (5, true), (6, true), (7, true), (8, true), (9, true), (11, true), (10, false), (12, false), (13, true), (14, true), (15, true), (16, true), (17, true), (19, true), (18, false), (20, false), (21, true), (22, true), (23, true), (24, true), (26, true), (25, false), (27, false), (28, false), (29, true), (30, true), (31, true), (32, true), (33, true), (34, true), (36, true), (37, true), (38, true), (39, true), (35, false), (40, false), (41, true), (42, true), (43, true)] (fun w' => w'.cell? ⟨X, 0, none⟩ = some (.slice (some ⟨b, off, none⟩) n c) ∧ w'.cell? ⟨X, 1, none⟩ = some (.int .i64 most) ∧ w'.cell? ⟨Wb, 1, none⟩ = some (.int .i64 ci)) (by kernel_rfl) (by kernel_rfl) rfl (by kernel_rfl) (KB.out _ B0.out) ?_
    iterate 11 (refine seq_read rfl (by first | rfl | (go_simp; done)) (fun w' hw => by obtain ⟨s0, s1, s2⟩ := hw; go_simp; with_reducible rfl) ?_; try simp only [Act.put, List.setIfInBounds_toArray, List.set_cons_zero, List.set_cons_succ])
    generalize wc.drew = w0 at *
    refine seq_call rfl (fun K hK => ?_)
    go_simp
    refine (DC.out.count _ H0.out).mono ?_
    rintro e w1 ⟨rfl, F⟩
    have H1 := Lib.hid (H0.out.below F)
    have B1 := Lib.hid (B0.out.trans (F.mono B0.out.size))
    refine hK.out _ _ (KB.out _ B1.out) ?_
    clear hK K
    try simp only [Act.put, List.setIfInBounds_toArray, List.set_cons_zero, List.set_cons_succ]
    refine seq_call rfl (fun K hK => ?_)
    go_simp
    refine (DC.out.live2 _ H1.out).mono ?_
    rintro e w2 ⟨A2, c2, rfl, -, F⟩
    have H2 := Lib.hid (H1.out.below F)
    have B2 := Lib.hid (B1.out.trans (F.mono B1.out.size))
    refine hK.out _ _ (KB.out _ B2.out) ?_
    clear hK K
    try simp only [Act.put, List.setIfInBounds_toArray, List.set_cons_zero, List.set_cons_succ]
    iterate 6 (refine seq_read rfl (by first | rfl | (go_simp; done)) (fun w' hw => by obtain ⟨s0, s1, s2⟩ := hw; go_simp; with_reducible rfl) ?_; try simp only [Act.put, List.setIfInBounds_toArray, List.set_cons_zero, List.set_cons_succ])
    refine seq_call rfl (fun K hK => ?_)
    go_simp
    refine (DC.out.dead1 _ H2.out).mono ?_
    rintro e w102 ⟨rfl, rfl⟩
    refine hK.out _ _ (KB.out _ B2.out) ?_
    clear hK K
    try simp only [Act.put, List.setIfInBounds_toArray, List.set_cons_zero, List.set_cons_succ]
    refine seq_call rfl (fun K hK => ?_)
    go_simp
    refine (DC.out.dead2 _ H2.out).mono ?_
    rintro e w3 ⟨rfl, F⟩
    have H3 := Lib.hid (H2.out.below F)
    have B3 := Lib.hid (B2.out.trans (F.mono B2.out.size))
    refine hK.out _ _ (KB.out _ B3.out) ?_
    clear hK K
    try simp only [Act.put, List.setIfInBounds_toArray, List.set_cons_zero, List.set_cons_succ]
    iterate 5 (refine seq_read rfl (by first | rfl | (go_simp; done)) (fun w' hw => by obtain ⟨s0, s1, s2⟩ := hw; go_simp; with_reducible rfl) ?_; try simp only [Act.put, List.setIfInBounds_toArray, List.set_cons_zero, List.set_cons_succ])
    refine seq_call rfl (fun K hK => ?_)
    go_simp
    refine (DC.out.live1 _ H3.out).mono ?_
    rintro e w4 ⟨A4, c4, rfl, R4, F⟩
    have H4 := Lib.hid (H3.out.below F)
    have B4 := Lib.hid (B3.out.trans (F.mono B3.out.size))
    refine hK.out _ _ (KB.out _ B4.out) ?_
    clear hK K
    try simp only [Act.put, List.setIfInBounds_toArray, List.set_cons_zero, List.set_cons_succ]
    refine seq_call rfl (fun K hK => ?_)
    go_simp
    refine (DC.out.live2 _ H4.out).mono ?_
    rintro e w5 ⟨A5, c5, rfl, R5, F⟩
    have F4s := Lib.hid F
    have H5 := Lib.hid (H4.out.below F)
    have B5 := Lib.hid (B4.out.trans (F.mono B4.out.size))
    refine hK.out _ _ (KB.out _ B5.out) ?_
    clear hK K
    try simp only [Act.put, List.setIfInBounds_toArray, List.set_cons_zero, List.set_cons_succ]
    refine seq_call rfl (fun K hK => ?_)
    go_simp
    refine (DC.out.same _ A4 A5 c4 c5 (R4.below F4s.out) R5).mono ?_
    rintro e w6 ⟨rfl, F⟩
    have H6 := Lib.hid (H5.out.below F)
    have B6 := Lib.hid (B5.out.trans (F.mono B5.out.size))
    refine hK.out _ _ (KB.out _ B6.out) ?_
    clear hK K
    try simp only [Act.put, List.setIfInBounds_toArray, List.set_cons_zero, List.set_cons_succ]
    iterate 10 (refine seq_read rfl (by first | rfl | (go_simp; done)) (fun w' hw => by obtain ⟨s0, s1, s2⟩ := hw; go_simp; with_reducible rfl) ?_; try simp only [Act.put, List.setIfInBounds_toArray, List.set_cons_zero, List.set_cons_succ])
    refine seq_call rfl (fun K hK => ?_)
    go_simp
    refine (DC.out.of1 _ H6.out).mono ?_
    rintro e w7 ⟨rfl, F⟩
    have H7 := Lib.hid (H6.out.below F)
    have B7 := Lib.hid (B6.out.trans (F.mono B6.out.size))
    refine hK.out _ _ (KB.out _ B7.out) ?_
    clear hK K
    try simp only [Act.put, List.setIfInBounds_toArray, List.set_cons_zero, List.set_cons_succ]
    refine seq_call rfl (fun K hK => ?_)
    go_simp
    refine (DC.out.of2 _ H7.out).mono ?_
    rintro e w8 ⟨rfl, F⟩
    have H8 := Lib.hid (H7.out.below F)
    have B8 := Lib.hid (B7.out.trans (F.mono B7.out.size))
    refine hK.out _ _ (KB.out _ B8.out) ?_
    clear hK K
    try simp only [Act.put, List.setIfInBounds_toArray, List.set_cons_zero, List.set_cons_succ]
    iterate 3 (refine seq_read rfl (by first | rfl | (go_simp; done)) (fun w' hw => by obtain ⟨s0, s1, s2⟩ := hw; go_simp; with_reducible rfl) ?_; try simp only [Act.put, List.setIfInBounds_toArray, List.set_cons_zero, List.set_cons_succ])
    refine seq_done ?_
    go_wp2
    go_ret
    refine ⟨rfl, ?_⟩
    rw [hX.out]
    exact BW.out.trans (B8.out.mono bwl.out)
end Go.Proofs.YtaflekpfpdnbcaaDoor
