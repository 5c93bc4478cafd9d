/- Polls: what is done with a device. No condition. -/
import Derived.Test.YtblapbnplflghaaPo
import Derived.Test.YtblapbnplflghaaSeq
import Derived.Test.YtblapbnplflghaaSince
namespace Go.Proofs.Ytblapbnplflghaa
open Go.RowKit
set_option linter.unusedVariables false
set_option linter.unusedSimpArgs false
set_option linter.unusedSectionVars false
set_option maxRecDepth 100000
theorem fieldLook0 (w : World) (o : Bool) (a1 a2 a3 a4 a5 a6 : Int) :
    (Instr.field 38 (.agg #[.bool o, .int .i64 a1, .int .i64 a2, .int .u64 a3, .int .i64 a4, .int .i64 a5, .int .i64 a6]) 0).run Try.prog w = .ok (.bool o) w := by kernel_rfl
theorem fieldLook1 (w : World) (o : Bool) (a1 a2 a3 a4 a5 a6 : Int) :
    (Instr.field 38 (.agg #[.bool o, .int .i64 a1, .int .i64 a2, .int .u64 a3, .int .i64 a4, .int .i64 a5, .int .i64 a6]) 1).run Try.prog w = .ok (.int .i64 a1) w := by kernel_rfl
theorem fieldLook2 (w : World) (o : Bool) (a1 a2 a3 a4 a5 a6 : Int) :
    (Instr.field 38 (.agg #[.bool o, .int .i64 a1, .int .i64 a2, .int .u64 a3, .int .i64 a4, .int .i64 a5, .int .i64 a6]) 2).run Try.prog w = .ok (.int .i64 a2) w := by kernel_rfl
theorem fieldLook3 (w : World) (o : Bool) (a1 a2 a3 a4 a5 a6 : Int) :
    (Instr.field 38 (.agg #[.bool o, .int .i64 a1, .int .i64 a2, .int .u64 a3, .int .i64 a4, .int .i64 a5, .int .i64 a6]) 3).run Try.prog w = .ok (.int .u64 a3) w := by kernel_rfl
theorem fieldLook6 (w : World) (o : Bool) (a1 a2 a3 a4 a5 a6 : Int) :
    (Instr.field 38 (.agg #[.bool o, .int .i64 a1, .int .i64 a2, .int .u64 a3, .int .i64 a4, .int .i64 a5, .int .i64 a6]) 6).run Try.prog w = .ok (.int .i64 a6) w := by kernel_rfl
section
variable {w : World} {D : PoD} {gs : List G} {ns : List (Int × Int)} {T : List Th} {f : Nat}

set_option maxHeartbeats 4000000 in
theorem look_p (h : PoS w D gs ns T f) {K : Nat} (hK : K < gs.length) :
    Calls Try.prog 15 #[.pointer (some ⟨D.p, 0, none⟩), .int .i64 K] w fun e w' => e = .returned (.tuple #[lookV gs[K], .bool true]) ∧ Below w.heap.size w w' := by
  have B1 := blA (Below.refl w.heap.size w) (.cells #[.bool false, .int .i64 0, .int .i64 0, .int .u64 0, .int .i64 0, .int .i64 0, .int .i64 0] 38)
  have at1 := at_p (h.below B1) (K := K) (by rw [← h.gl]; exact hK)
  have lk := look_c ((h.below B1).ga K hK)
  have q0 := Cel.new w #[.bool false, .int .i64 0, .int .i64 0, .int .u64 0, .int .i64 0, .int .i64 0, .int .i64 0] 38 0 (.bool false) rfl
  have q1 := Cel.new w #[.bool false, .int .i64 0, .int .i64 0, .int .u64 0, .int .i64 0, .int .i64 0, .int .i64 0] 38 1 (.int .i64 0) rfl
  have q2 := Cel.new w #[.bool false, .int .i64 0, .int .i64 0, .int .u64 0, .int .i64 0, .int .i64 0, .int .i64 0] 38 2 (.int .i64 0) rfl
  have q3 := Cel.new w #[.bool false, .int .i64 0, .int .i64 0, .int .u64 0, .int .i64 0, .int .i64 0, .int .i64 0] 38 3 (.int .u64 0) rfl
  have q4 := Cel.new w #[.bool false, .int .i64 0, .int .i64 0, .int .u64 0, .int .i64 0, .int .i64 0, .int .i64 0] 38 4 (.int .i64 0) rfl
  have q5 := Cel.new w #[.bool false, .int .i64 0, .int .i64 0, .int .u64 0, .int .i64 0, .int .i64 0, .int .i64 0] 38 5 (.int .i64 0) rfl
  have q6 := Cel.new w #[.bool false, .int .i64 0, .int .i64 0, .int .u64 0, .int .i64 0, .int .i64 0, .int .i64 0] 38 6 (.int .i64 0) rfl
  have qs := Lib.hid (And.intro q0 (And.intro q1 (And.intro q2 (And.intro q3 (And.intro q4 (And.intro q5 q6))))))
  replace at1 := Lib.hid at1; replace lk := Lib.hid lk; replace B1 := Lib.hid B1
  generalize gs[K] = gg at *
  clear h q0 q1 q2 q3 q4 q5 q6
  go_enter Try.func15, Try.ntmps15
  go_wp2_with fail
  generalize w.alloc (.cells #[.bool false, .int .i64 0, .int .i64 0, .int .u64 0, .int .i64 0, .int .i64 0, .int .i64 0] 38) = w1 at *
  refine at1.out.mono ?_
  rintro e w2 ⟨rfl, rfl⟩
  go_wp2_with fail
  refine lk.out.mono ?_
  rintro e w3 ⟨rfl, F⟩
  obtain ⟨op, ready, late, handle, want, mode, told⟩ := gg
  unfold lookV
  have FB := F.toB (S' := fun _ => False) (fun _ _ h => h)
  have B3 := Lib.hid (B1.out.trans (F.below (B := w.heap.size) B1.out.size (fun _ _ _ h => h)))
  obtain ⟨q0, q1, q2, q3, q4, q5, q6⟩ := qs.out
  obtain ⟨q0, r0⟩ := q0.frb FB (fun h => h)
  obtain ⟨q1, r1⟩ := q1.frb FB (fun h => h)
  obtain ⟨q2, r2⟩ := q2.frb FB (fun h => h)
  obtain ⟨q3, r3⟩ := q3.frb FB (fun h => h)
  obtain ⟨q4, r4⟩ := q4.frb FB (fun h => h)
  obtain ⟨q5, r5⟩ := q5.frb FB (fun h => h)
  obtain ⟨q6, r6⟩ := q6.frb FB (fun h => h)
  clear qs F FB lk at1
  go_wp2
  refine bodyPost_ret (v := .tuple #[.agg #[.bool op, .int .i64 ready, .int .i64 late, .int .u64 handle, .int .i64 want, .int .i64 mode, .int .i64 told], .bool true]) ?hres rfl ?hend
  case hend =>
    refine ⟨rfl, ?_⟩
    exact ((((((B3.out.setCell (p := ⟨w.heap.size, 0, none⟩) (Nat.le_refl _) _).setCell (p := ⟨w.heap.size, 1, none⟩) (Nat.le_refl _) _).setCell (p := ⟨w.heap.size, 2, none⟩) (Nat.le_refl _) _).setCell (p := ⟨w.heap.size, 3, none⟩) (Nat.le_refl _) _).setCell (p := ⟨w.heap.size, 4, none⟩) (Nat.le_refl _) _).setCell (p := ⟨w.heap.size, 5, none⟩) (Nat.le_refl _) _).setCell (p := ⟨w.heap.size, 6, none⟩) (Nat.le_refl _) _
  case hres => simp [results, Try.results15, go_sem, *]

theorem notes_p (h : PoS w D gs ns T f) :
    Calls Try.prog 13 #[.pointer (some ⟨D.p, 0, none⟩)] w fun e w' => ∃ v, e = .returned v ∧ OwnE noE w' w.heap.size v ns ∧ PoS w' D gs ns T f ∧ FrB D.F w w' := by
  have x1 := h.c1.1
  have al := Lib.hid (all_note h.bx)
  have H := Lib.hid h
  clear h
  go_enter Try.func13, Try.ntmps13
  go_wp2_with fail
  refine al.out.mono ?_
  rintro e w2 ⟨v, rfl, O, b, F⟩
  have fin := Lib.hid (show OwnE noE w2 w.heap.size v ns ∧ PoS w2 D gs ns T f ∧ FrB D.F w w2 from ⟨O, H.out.boxed b F H.out.no, PoD.F_box F⟩)
  clear O b F al x1
  go_wp2
  go_ret
  exact ⟨v, rfl, fin.out⟩

theorem open_p (h : PoS w D gs ns T f) {K : Nat} (hK : K < gs.length) :
    Calls Try.prog 10 #[.pointer (some ⟨D.p, 0, none⟩), .int .i64 K] w fun e w' => e = .returned (.bool (!gs[K].op)) ∧ PoS w' D (gs.set K (openG gs[K])) ns T f ∧ FrB D.F w w' := by
  have at1 := Lib.hid (at_p h (K := K) (by rw [← h.gl]; exact hK))
  have op1 := Lib.hid (open_c (h.ga K hK))
  have H := Lib.hid h
  generalize gs[K] = gg at *
  clear h
  go_enter Try.func10, Try.ntmps10
  go_wp2_with fail
  refine at1.out.mono ?_
  rintro e w2 ⟨rfl, rfl⟩
  go_wp2_with fail
  refine op1.out.mono ?_
  rintro e w3 ⟨rfl, G1, F⟩
  have fin := Lib.hid (And.intro (H.out.gate G1 F) (PoD.F_gate F))
  clear G1 F op1 at1
  go_wp2
  go_ret
  exact ⟨rfl, fin.out⟩
theorem open_out (h : PoS w D gs ns T f) {K : Nat} (hK : ¬ K < D.n) :
    Calls Try.prog 10 #[.pointer (some ⟨D.p, 0, none⟩), .int .i64 K] w fun e w' => e = .returned (.bool false) ∧ w = w' := by
  have at1 := Lib.hid (at_out h hK)
  clear h
  go_enter Try.func10, Try.ntmps10
  go_wp2_with fail
  refine at1.out.mono ?_
  rintro e w2 ⟨rfl, rfl⟩
  go_wp2
  go_ret
  exact ⟨rfl, rfl⟩
theorem ack_p (h : PoS w D gs ns T f) {K : Nat} (hK : K < gs.length) (m : Int) :
    Calls Try.prog 21 #[.pointer (some ⟨D.p, 0, none⟩), .int .i64 K, .int .i64 m] w fun e w' => e = .returned (.int .i64 (bits .and .i64 gs[K].ready m)) ∧ PoS w' D (gs.set K (ackG gs[K] m)) ns T f ∧ FrB D.F w w' := by
  have at1 := Lib.hid (at_p h (K := K) (by rw [← h.gl]; exact hK))
  have op1 := Lib.hid (ack_c (h.ga K hK) m)
  have H := Lib.hid h
  generalize gs[K] = gg at *
  clear h
  go_enter Try.func21, Try.ntmps21
  go_wp2_with fail
  refine at1.out.mono ?_
  rintro e w2 ⟨rfl, rfl⟩
  go_wp2_with fail
  refine op1.out.mono ?_
  rintro e w3 ⟨rfl, G1, F⟩
  have fin := Lib.hid (And.intro (H.out.gate G1 F) (PoD.F_gate F))
  clear G1 F op1 at1
  go_wp2
  go_ret
  exact ⟨rfl, fin.out⟩
theorem tell_p (h : PoS w D gs ns T f) {K : Nat} (hK : K < gs.length) :
    Calls Try.prog 18 #[.pointer (some ⟨D.p, 0, none⟩), .int .i64 K] w fun e w' => e = .returned (.tuple #[.int .u64 (whoG gs[K]), .int .i64 (maskG gs[K])]) ∧ PoS w' D (gs.set K (tellG gs[K])) ns T f ∧ FrB D.F w w' := by
  have at1 := Lib.hid (at_p h (K := K) (by rw [← h.gl]; exact hK))
  have op1 := Lib.hid (tell_c (h.ga K hK))
  have H := Lib.hid h
  generalize gs[K] = gg at *
  clear h
  go_enter Try.func18, Try.ntmps18
  go_wp2_with fail
  refine at1.out.mono ?_
  rintro e w2 ⟨rfl, rfl⟩
  go_wp2_with fail
  refine op1.out.mono ?_
  rintro e w3 ⟨rfl, G1, F⟩
  have fin := Lib.hid (And.intro (H.out.gate G1 F) (PoD.F_gate F))
  clear G1 F op1 at1
  go_wp2
  go_ret2
  exact ⟨rfl, fin.out⟩
/-- What is noted, and kept. -/
def postB (gs : List G) (K : Nat) (m : Int) : Bool := decide (bits .and .i64 m 7 ≠ 0) && (gs.getD K noG).op
def postN (D : PoD) (gs : List G) (ns : List (Int × Int)) (K : Nat) (m : Int) : List (Int × Int) := if postB gs K m ∧ ns.length < D.cap then ns ++ [((K : Int), bits .and .i64 m 7)] else ns
def postG (D : PoD) (gs : List G) (ns : List (Int × Int)) (K : Nat) (m : Int) : List G := if postB gs K m ∧ ¬ ns.length < D.cap then gs.set K (keepG (gs.getD K noG) (bits .and .i64 m 7)) else gs
set_option maxHeartbeats 4000000 in
theorem post_p (h : PoS w D gs ns T f) {K : Nat} (hK : K < gs.length) (m : Int) :
    Calls Try.prog 12 #[.pointer (some ⟨D.p, 0, none⟩), .int .i64 K, .int .i64 m] w fun e w' => e = .returned (.bool (postB gs K m)) ∧ PoS w' D (postG D gs ns K m) (postN D gs ns K m) T f ∧ FrB D.F w w' := by
  have at1 := Lib.hid (at_p h (K := K) (by rw [← h.gl]; exact hK))
  have lk := Lib.hid (look_c (h.ga K hK))
  have hgd : gs.getD K noG = gs[K] := by simp [hK]
  have hKn : K < D.n := by rw [← h.gl]; exact hK
  have H := Lib.hid h
  obtain ⟨mm, hmm⟩ : ∃ mm, bits .and .i64 m 7 = mm := ⟨_, rfl⟩
  have e0 : postB gs K m = (decide (mm ≠ 0) && gs[K].op) := by unfold postB; rw [hmm, hgd]
  by_cases h0 : mm = 0
  · subst h0
    rw [show decide ((0 : Int) ≠ 0) = false from rfl, Bool.false_and] at e0
    have fin := Lib.hid (show Ending.returned (.bool false) = Ending.returned (.bool (postB gs K m)) ∧ PoS w D (postG D gs ns K m) (postN D gs ns K m) T f ∧ FrB D.F w w from ⟨by rw [e0], by unfold postG postN; rw [e0]; simpa using h, FrB.refl _ _⟩)
    clear h e0 lk hgd
    go_enter Try.func12, Try.ntmps12
    go_wp2_with fail
    refine at1.out.mono ?_
    rintro e w2 ⟨rfl, rfl⟩
    clear at1
    go_wp2
    go_ret
    exact fin.out
  · have d0 : (mm == 0) = false := by simpa using h0
    have hf0 := fieldLook0
    rw [show decide (mm ≠ 0) = true by simpa using h0, Bool.true_and] at e0
    replace h0 := Lib.hid h0
    cases hop : gs[K].op with
    | false =>
      rw [hop] at e0
      have fin := fun w' (F : Below w.heap.size w w') => (show Ending.returned (.bool false) = Ending.returned (.bool (postB gs K m)) ∧ PoS w' D (postG D gs ns K m) (postN D gs ns K m) T f ∧ FrB D.F w w' from ⟨by rw [e0], by unfold postG postN; rw [e0]; simpa using h.below F, FrB.of_below F (Nat.le_refl _)⟩)
      replace fin := Lib.hid fin
      obtain ⟨⟨op, ready, late, handle, want, mode, told⟩, hgg⟩ : ∃ g, gs[K] = g := ⟨_, rfl⟩
      rw [hgg] at lk hop
      obtain rfl : op = false := hop
      clear h e0 hgd hgg
      go_enter Try.func12, Try.ntmps12
      go_wp2_with fail
      refine at1.out.mono ?_
      rintro e w2 ⟨rfl, rfl⟩
      clear at1
      go_wp2_with fail
      refine lk.out.mono ?_
      rintro e w3 ⟨rfl, F⟩
      have B3 := Lib.hid (F.below (Nat.le_refl _) (fun _ _ _ h => h))
      unfold lookV
      clear F lk
      go_wp2
      go_ret
      exact fin.out _ B3.out
    | true =>
      rw [hop] at e0
      have kp := fun w' (F : PoS w' D gs ns T f) => keep_c (F.ga K hK) mm
      replace kp := Lib.hid kp
      obtain ⟨⟨op, ready, late, handle, want, mode, told⟩, hgg⟩ : ∃ g, gs[K] = g := ⟨_, rfl⟩
      rw [hgg] at lk hop kp
      obtain rfl : op = true := hop
      replace hgg := Lib.hid hgg; replace e0 := Lib.hid e0; replace hgd := Lib.hid hgd
      clear h
      go_enter Try.func12, Try.ntmps12
      go_wp2_with fail
      refine at1.out.mono ?_
      rintro e w2 ⟨rfl, rfl⟩
      clear at1
      go_wp2_with fail
      refine lk.out.mono ?_
      rintro e w3 ⟨rfl, F⟩
      have B3 := F.below (B := w.heap.size) (Nat.le_refl _) (fun _ _ _ h => h)
      have H3 := Lib.hid (H.out.below B3)
      have F3 := Lib.hid (FrB.of_below (S := D.F) B3 (Nat.le_refl _))
      have x1 := H3.out.c1.1
      have ps := Lib.hid (post_note H3.out.bx K mm)
      unfold lookV
      clear F lk B3
      go_wp2_with fail
      refine ps.out.mono ?_
      rintro e w4 ⟨rfl, b, F⟩
      have hlen : (ns.map ntV).length = ns.length := List.length_map _
      rw [hlen] at b ⊢
      by_cases hl : ns.length < D.cap
      · rw [if_pos hl] at b
        have d1 : decide (ns.length < D.cap) = true := decide_eq_true hl
        have fin := Lib.hid (show PoS w4 D (postG D gs ns K m) (postN D gs ns K m) T f ∧ FrB D.F w w4 from ⟨by
          unfold postG postN
          rw [if_neg (fun e => e.2 hl), if_pos ⟨e0.out, hl⟩, hmm]
          refine H3.out.boxed (ns' := ns ++ [((K : Int), mm)]) (by rw [List.map_append]; exact b) F (fun x hx => ?_)
          rcases List.mem_append.1 hx with hx | hx
          · exact H3.out.no x hx
          · obtain rfl : x = ((K : Int), mm) := by simpa using hx
            exact ⟨by simp only; omega, by simp only; omega⟩, F3.out.allT (PoD.F_box F)⟩)
        clear b F ps hl
        go_wp2
        go_ret
        rw [e0.out]
        exact ⟨rfl, fin.out⟩
      · rw [if_neg hl] at b
        have d1 : decide (ns.length < D.cap) = false := decide_eq_false hl
        have H4 := Lib.hid (H3.out.boxed b F H3.out.no)
        have F4 := Lib.hid (F3.out.allT (PoD.F_box F))
        replace hl := Lib.hid hl
        clear b F ps
        go_wp2_with fail
        refine (kp.out _ H4.out).mono ?_
        rintro e w5 ⟨rfl, G5, F⟩
        have fin := Lib.hid (show PoS w5 D (postG D gs ns K m) (postN D gs ns K m) T f ∧ FrB D.F w w5 from ⟨by
          unfold postG postN
          rw [if_pos ⟨e0.out, hl.out⟩, if_neg (fun e => hl.out e.2), hmm, hgd.out, hgg.out]
          exact H4.out.gate G5 F, F4.out.allT (PoD.F_gate F)⟩)
        clear G5 F
        go_wp2
        go_ret
        rw [e0.out]
        exact ⟨rfl, fin.out⟩
end
end Go.Proofs.Ytblapbnplflghaa
