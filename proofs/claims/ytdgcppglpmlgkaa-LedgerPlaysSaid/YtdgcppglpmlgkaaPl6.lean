/- LedgerPlays. -/
import Derived.Test.YtdgcppglpmlgkaaRef6b
import Derived.Deep.DeepCutAuto
import Derived.Deep.CutBlock
namespace Go.Proofs.Ytdgcppglpmlgkaa
open Go.RowKit
set_option linter.unusedVariables false
set_option linter.unusedSimpArgs false
set_option linter.unusedSectionVars false
set_option maxRecDepth 100000

structure Op6 where
  kind : Int
  key : ByteArray
  n : Int
deriving Inhabited
def Op6.cells (z : Op6) : List Value := [.int .i64 z.kind, .string z.key, .int .i64 z.n]
def Op6.good (z : Op6) : Prop := (Lit.int .i64 z.kind).wf = true ∧ z.key.size ≤ maxLen ∧ (Lit.int .i64 z.n).wf = true
def Op6.val (z : Op6) : Value := .agg #[.int .i64 z.kind, .string z.key, .int .i64 z.n]
theorem el_Op6 {H : Type} {enc : TypeId × Value → H} {w : World} : ∀ n cs x, DataW.trod enc Try.prog w 0 (fun _ => true) true n 29 cs = some x → ∃ z : Op6, cs = z.cells ∧ z.good := by
  intro n cs x h
  have hl := (struct_cells Try.underlying29 h).1
  rw [show Try.prog.cellsOf 29 = 3 by kernel_rfl] at hl
  obtain ⟨v0, v1, v2, rfl⟩ : ∃ v0 v1 v2 : Value, cs = [v0, v1, v2] := by
    match cs, hl with
    | [v0, v1, v2], _ => exact ⟨v0, v1, v2, rfl⟩
  obtain ⟨-, n, f⟩ := struct_cells Try.underlying29 h
  obtain ⟨y_0, h_0⟩ := f 0 _ rfl
  replace h_0 : DataW.trod enc Try.prog w 0 (fun _ => true) true n 3 [v0] = some y_0 := h_0
  obtain ⟨a0, e0, g0⟩ := (el_int Try.underlying3) _ _ _ h_0
  obtain rfl : v0 = .int .i64 a0 := by simpa using e0
  obtain ⟨y_1, h_1⟩ := f 1 _ rfl
  replace h_1 : DataW.trod enc Try.prog w 0 (fun _ => true) true n 9 [v1] = some y_1 := h_1
  obtain ⟨a1, e1, g1⟩ := (el_string Try.underlying9) _ _ _ h_1
  obtain rfl : v1 = .string a1 := by simpa using e1
  obtain ⟨y_2, h_2⟩ := f 2 _ rfl
  replace h_2 : DataW.trod enc Try.prog w 0 (fun _ => true) true n 3 [v2] = some y_2 := h_2
  obtain ⟨a2, e2, g2⟩ := (el_int Try.underlying3) _ _ _ h_2
  obtain rfl : v2 = .int .i64 a2 := by simpa using e2
  exact ⟨⟨a0, a1, a2⟩, rfl, ⟨g0, g1, g2⟩⟩

theorem blimit_len {κ : Type} [DecidableEq κ] (L : List (κ × Int × Int)) (k : κ) (n : Int) : (bLimit L k n).length ≤ L.length + 1 := bset_length _ _ _
theorem btake_len {κ : Type} [DecidableEq κ] (L : List (κ × Int × Int)) (k : κ) (n : Int) : (bTake L k n).length ≤ L.length + 1 := by
  unfold bTake; split
  · exact bset_length _ _ _
  · omega
theorem bgive_len {κ : Type} [DecidableEq κ] (L : List (κ × Int × Int)) (k : κ) (n : Int) : (bGive L k n).length ≤ L.length + 1 := by
  unfold bGive; split
  · exact bset_length _ _ _
  · omega
theorem fidx_mem {κ : Type} [DecidableEq κ] {L : List (κ × Int × Int)} {k : κ} (h : k ∈ L.map (·.1)) : ∃ i, fidx L k = some i := by
  cases hf : fidx L k with
  | some i => exact ⟨i, rfl⟩
  | none =>
    obtain ⟨x, hx, he⟩ := List.mem_map.1 h
    exact absurd he ((fidx_none hf).2 x hx)
theorem sorted_at6 {κ : Type} {lt : κ → κ → Bool} {S : List κ} (h : Sorted lt S) {k : Nat} (h1 : k + 1 < S.length) : lt S[k] S[k + 1] = true := List.pairwise_iff_getElem.1 h k (k + 1) (by omega) h1 (by omega)
theorem wf_lt6 {a : Int} (h : (Lit.int .i64 a).wf = true) : a < 9223372036854775808 := by
  simp [Lit.wf, IntKind.min, IntKind.max, IntKind.bits, IntKind.signed] at h
  omega

/-- A book at p with lines L, and a row with lines M, apart. -/
structure StP (w wr : World) (p : Nat) (v vx : Value) (L M : List (ByteArray × Int × Int)) : Prop where
  bk : Bk_s wr p v L
  row : OwnE lnR wr 0 vx M
  vlow : ∀ b, v.ownBlock = some b → w.heap.size ≤ b
  xlow : ∀ b, vx.ownBlock = some b → b ≠ p ∧ v.ownBlock ≠ some b
  bel : Below w.heap.size w wr
  plow : w.heap.size ≤ p
theorem StP.below {w wr w2 : World} {p : Nat} {v vx : Value} {L M : List (ByteArray × Int × Int)} (h : StP w wr p v vx L M) (F : Below wr.heap.size wr w2) : StP w w2 p v vx L M :=
  ⟨h.bk.below F, h.row.below F, h.vlow, h.xlow, h.bel.trans (F.mono h.bel.size), h.plow⟩
theorem StP.book {w wr w2 : World} {p : Nat} {v v' vx : Value} {L L' M : List (ByteArray × Int × Int)} (h : StP w wr p v vx L M) (K : Bk_s w2 p v' L') (O : v'.ownBlock = v.ownBlock ∨ ∃ b, v'.ownBlock = some b ∧ wr.heap.size ≤ b) (F : FrB (bkS_s p v) wr w2) : StP w w2 p v' vx L' M := by
  refine ⟨K, h.row.frb F (fun b hb hh => hh.elim (fun e => (h.xlow b hb).1 e) (fun e => (h.xlow b hb).2 e)), fun b hb => ?_, fun b hb => ⟨(h.xlow b hb).1, fun e => ?_⟩, h.bel.trans (F.below h.bel.size (fun b hb hh => hh.elim (fun e => by have := h.plow; omega) (fun e => by have := h.vlow b e; omega))), h.plow⟩
  · rcases O with o | ⟨b', e, hl⟩
    · exact h.vlow b (by rw [← o]; exact hb)
    · rw [e] at hb; injection hb with hb; have := h.bel.size; omega
  · rcases O with o | ⟨b', e', hl⟩
    · exact (h.xlow b hb).2 (by rw [← o]; exact e)
    · rw [e'] at e; injection e with e; have := (h.row.lt b hb).2; omega
theorem StP.rows {w wr w2 : World} {p : Nat} {v vx v2 : Value} {L M M' : List (ByteArray × Int × Int)} (h : StP w wr p v vx L M) (R : OwnE lnR w2 0 v2 M') (N : NewE wr vx v2) (F : Below wr.heap.size wr w2) : StP w w2 p v v2 L M' := by
  refine ⟨h.bk.below F, R, h.vlow, fun b hb => ?_, h.bel.trans (F.mono h.bel.size), h.plow⟩
  rcases N b hb with e | e
  · exact h.xlow b e
  · exact ⟨fun e' => by have := h.bk.cel.lt; omega, fun e' => by have := (h.bk.own.lt b e').2; omega⟩
theorem NewE.own {w w2 : World} {v v2 : Value} {M : List (ByteArray × Int × Int)} (h : OwnE lnR w2 w.heap.size v2 M) : NewE w v v2 := fun b hb => .inr (h.lt b hb).1

/-- The step in its variable. -/
structure OpC (wr : World) (p : Nat) (v : Value) (Z : Nat) (z : Op6) : Prop where
  c1 : Cel wr Z 1 (.string z.key)
  c2 : Cel wr Z 2 (.int .i64 z.n)
  np : Z ≠ p
  nv : v.ownBlock ≠ some Z
theorem OpC.below {wr w2 : World} {p : Nat} {v : Value} {Z : Nat} {z : Op6} (h : OpC wr p v Z z) (F : Below wr.heap.size wr w2) : OpC w2 p v Z z :=
  ⟨h.c1.frb (FrB.of_below (S := fun _ => False) F (Nat.le_refl _)) (fun h => h), h.c2.frb (FrB.of_below (S := fun _ => False) F (Nat.le_refl _)) (fun h => h), h.np, h.nv⟩
theorem OpC.book {wr w2 : World} {p : Nat} {v v' : Value} {Z : Nat} {z : Op6} (h : OpC wr p v Z z) (O : v'.ownBlock = v.ownBlock ∨ ∃ b, v'.ownBlock = some b ∧ wr.heap.size ≤ b) (F : FrB (bkS_s p v) wr w2) : OpC w2 p v' Z z := by
  have hs : ¬ bkS_s p v Z := fun hh => hh.elim (fun e => h.np e) (fun e => h.nv e)
  refine ⟨h.c1.frb F hs, h.c2.frb F hs, h.np, fun e => ?_⟩
  rcases O with o | ⟨b', e', hl⟩
  · exact h.nv (by rw [← o]; exact e)
  · rw [e'] at e; injection e with e; have := h.c1.lt; omega

set_option maxHeartbeats 8000000 in
theorem plays6_walk (A0 : Option Addr) (c0 : Nat) (xs : List Op6) (ask : ByteArray) (w : World) (hr : RowAt Op6.cells 3 w A0 xs) (hg : ∀ z ∈ xs, z.good) :
    Calls Try.prog 3 #[.slice A0 xs.length c0, .string ask] w fun e w' => e = .returned (.bool true) ∧ Below w.heap.size w w' := by
  by_cases hbig : 40 < xs.length
  · have hb1 : decide ((40 : Int) < (xs.length : Int)) = true := by simp; omega
    go_enter Try.func3, Try.ntmps3
    go_wp2_with fail
    refine (alive06_c w).mono ?_
    rintro e w1 ⟨rfl, hB1⟩
    have HB1 := Lib.hid hB1
    clear hB1
    go_wp2
    go_ret
    exact ⟨rfl, HB1.out⟩
  have hb1 : decide ((40 : Int) < (xs.length : Int)) = false := by simp; omega
  replace hbig := Lib.hid hbig
  have HR := Lib.hid hr; have HG := Lib.hid hg
  clear hr hg
  go_enter Try.func3, Try.ntmps3
  go_wp2_with fail
  refine (alive06_c w).mono ?_
  rintro e w1 ⟨rfl, B1⟩
  have C1 := (Cel.new w1 #[.slice none 0 0] 26 0 _ rfl).alloc (.cells #[] 83)
  have HB := Below.alloc (Below.alloc B1 B1.size (.cells #[.slice none 0 0] 26)) (by have := B1.size; simp; omega) (.cells #[] 83)
  have K := Bk_s.new _ _ C1
  have X := emptyE (w1.alloc (.cells #[.slice none 0 0] 26)) 0 (Nat.zero_le _)
  have S0 := Lib.hid (show StP w ((w1.alloc (.cells #[.slice none 0 0] 26)).alloc (.cells #[] 83)) w1.heap.size (.slice none 0 0) (.slice (some ⟨w1.heap.size + 1, 0, none⟩) 0 0) [] [] from
    ⟨K, by simpa using X, fun b hb => by simp [Value.ownBlock] at hb, fun b hb => ⟨by simp [Value.ownBlock] at hb; omega, by simp [Value.ownBlock]⟩, HB, B1.size⟩)
  clear C1 HB K X B1
  go_wp2_with fail
  generalize (w1.alloc (.cells #[.slice none 0 0] 26)).alloc (.cells #[] 83) = W at *
  generalize w1.heap.size = p at *
  go_loopw [6, 26] (fun vx ii wr => ∃ (i : Nat) (v : Value) (L : List (ByteArray × Int × Int)), ii = .int .i64 i ∧ Hid (StP w wr p v vx L L) ∧ Hid (L.length ≤ i) ∧ Hid (i ≤ xs.length)) (fun _ ii _ => xs.length - (intOf ii).toNat)
  case atStart => exact ⟨0, _, [], rfl, S0, Lib.hid (Nat.le_refl _), Lib.hid (Nat.zero_le _)⟩
  case round =>
    clear S0
    obtain ⟨i, v, L, rfl, S, hLl, hi⟩ := hrel
    by_cases hlt : i < xs.length
    · have hi41 : i < 41 := by have := hbig.out; omega
      obtain ⟨b, off, rfl, hbl, hc⟩ := HR.out i hlt
      have hz0 := (S.out.bel.cell (p := ⟨b, off + i * 3 + 0, none⟩) hbl).trans (hc 0 _ rfl)
      have hz1 := (S.out.bel.cell (p := ⟨b, off + i * 3 + 1, none⟩) hbl).trans (hc 1 _ rfl)
      have hz2 := (S.out.bel.cell (p := ⟨b, off + i * 3 + 2, none⟩) hbl).trans (hc 2 _ rfl)
      rw [Nat.add_zero] at hz0
      have hn := wf_lt6 (HG.out xs[i] (List.getElem_mem hlt)).2.2
      have hkz := Lib.hid (HG.out xs[i] (List.getElem_mem hlt)).2.1
      generalize xs[i] = z at *
      replace hn := Lib.hid hn
      clear hc hbl
      have hB0 := Below.alloc (Below.refl wr.heap.size wr) (Nat.le_refl _) (.cells #[.int .i64 z.kind, .string z.key, .int .i64 z.n] 29)
      have S1 := Lib.hid (S.out.below hB0)
      have Z1 := Lib.hid (show OpC (wr.alloc (.cells #[.int .i64 z.kind, .string z.key, .int .i64 z.n] 29)) p v wr.heap.size z from
        ⟨Cel.new wr #[.int .i64 z.kind, .string z.key, .int .i64 z.n] 29 1 _ rfl, Cel.new wr #[.int .i64 z.kind, .string z.key, .int .i64 z.n] 29 2 _ rfl, fun e => by have := S.out.bk.cel.lt; omega, fun e => by have := (S.out.bk.own.lt _ e).2; omega⟩)
      have hL1 := Lib.hid (show L.length ≤ 100000 by have := hLl.out; omega)
      clear S hB0
      go_upto_block 2 with fail
      generalize wr.alloc (.cells #[.int .i64 z.kind, .string z.key, .int .i64 z.n] 29) = wz at *
      generalize wr.heap.size = Z at *
      go_cut [6] (fun vx wx => ∃ (v : Value) (L : List (ByteArray × Int × Int)), Hid (StP w wx p v vx L L) ∧ Hid (OpC wx p v Z z) ∧ Hid (L.length ≤ i + 1))
      case first =>
        obtain ⟨A, c, rfl, _⟩ := S1.out.row.slice
        have zz1 := Z1.out.c1.1; have zz2 := Z1.out.c2.1
        by_cases q0 : z.kind = 0
        · have t0 : (z.kind == 0) = true := beq_iff_eq.mpr q0
          clear q0
          go_wp2_with fail
          refine (limit_s S1.out.bk hL1.out z.key z.n hn.out).mono ?_
          rintro r w2 ⟨rfl, v', K, O, F⟩
          have S2 := Lib.hid (S1.out.book K O F)
          have Z2 := Lib.hid (Z1.out.book O F)
          clear K O F zz1 zz2
          have zz1 := Z2.out.c1.1; have zz2 := Z2.out.c2.1
          go_wp2_with fail
          refine (limit6 S2.out.row hL1.out z.key z.n).mono ?_
          rintro r w3 ⟨v2, rfl, R, F⟩
          have S3 := Lib.hid (S2.out.rows (R.mono (Nat.zero_le _)) (NewE.own R) F)
          have Z3 := Lib.hid (Z2.out.below F)
          clear R F zz1 zz2
          go_wp2_with fail
          go_meet
          exact ⟨_, _, S3, Z3, Lib.hid (by have := blimit_len L z.key z.n; have := hLl.out; omega)⟩
        have t0 : (z.kind == 0) = false := beq_eq_false_iff_ne.mpr q0
        clear q0
        by_cases q0 : z.kind = 1
        · have t1 : (z.kind == 1) = true := beq_iff_eq.mpr q0
          clear q0
          go_wp2_with fail
          refine (take6 S1.out.row hL1.out S1.out.bk.good z.key z.n).mono ?_
          rintro r w2 ⟨v2, rfl, R, N, F⟩
          have S2 := Lib.hid (S1.out.rows R N F)
          have Z2 := Lib.hid (Z1.out.below F)
          clear R N F zz1 zz2
          have zz1 := Z2.out.c1.1; have zz2 := Z2.out.c2.1
          go_wp2_with fail
          refine (take_s S2.out.bk hL1.out z.key z.n).mono ?_
          rintro r w3 ⟨rfl, K, F⟩
          have S3 := Lib.hid (S2.out.book K (.inl rfl) F)
          have Z3 := Lib.hid (Z2.out.book (.inl rfl) F)
          clear K F zz1 zz2
          go_wp2_with fail
          go_meet
          exact ⟨_, _, S3, Z3, Lib.hid (by have := btake_len L z.key z.n; have := hLl.out; omega)⟩
        have t1 : (z.kind == 1) = false := beq_eq_false_iff_ne.mpr q0
        clear q0
        by_cases q0 : z.kind = 2
        · have t2 : (z.kind == 2) = true := beq_iff_eq.mpr q0
          clear q0
          go_wp2_with fail
          refine (give6 S1.out.row hL1.out S1.out.bk.good z.key z.n).mono ?_
          rintro r w2 ⟨v2, rfl, R, N, F⟩
          have S2 := Lib.hid (S1.out.rows R N F)
          have Z2 := Lib.hid (Z1.out.below F)
          clear R N F zz1 zz2
          have zz1 := Z2.out.c1.1; have zz2 := Z2.out.c2.1
          go_wp2_with fail
          refine (give_s S2.out.bk hL1.out z.key z.n).mono ?_
          rintro r w3 ⟨rfl, K, F⟩
          have S3 := Lib.hid (S2.out.book K (.inl rfl) F)
          have Z3 := Lib.hid (Z2.out.book (.inl rfl) F)
          clear K F zz1 zz2
          go_wp2_with fail
          go_meet
          exact ⟨_, _, S3, Z3, Lib.hid (by have := bgive_len L z.key z.n; have := hLl.out; omega)⟩
        have t2 : (z.kind == 2) = false := beq_eq_false_iff_ne.mpr q0
        clear q0
        go_wp2_with fail
        go_meet
        exact ⟨_, _, S1, Z1, Lib.hid (by have := hLl.out; omega)⟩
      case rest =>
        obtain ⟨v2, L2, S2, Z2, hL2⟩ := hcut
        clear S1 Z1 hLl hL1
        obtain ⟨A, c, rfl, _⟩ := S2.out.row.slice
        have zz1 := Z2.out.c1.1
        have hl2 := Lib.hid (show L2.length ≤ 100000 by have := hL2.out; omega)
        have hB := Below.alloc (Below.refl wc.heap.size wc) (Nat.le_refl _) (.cells #[.string z.key, .string ask] 9)
        have S3 := Lib.hid (S2.out.below hB)
        have y0 := Lib.hid (Cel.new wc #[.string z.key, .string ask] 9 0 _ rfl)
        have y1 := Lib.hid (Cel.new wc #[.string z.key, .string ask] 9 1 _ rfl)
        clear S2 hB Z2
        go_wp2_with fail
        generalize wc.alloc (.cells #[.string z.key, .string ask] 9) = wq at *
        generalize wc.heap.size = Y at *
        clear zz1
        go_loopw [88] (fun jj wr2 => ∃ j : Nat, jj = .int .i64 j ∧ Hid (Below wq.heap.size wq wr2) ∧ Hid (j ≤ 2)) (fun jj _ => 2 - (intOf jj).toNat)
        case atStart => exact ⟨0, rfl, Lib.hid (Below.refl _ _), Lib.hid (by omega)⟩
        case round =>
          obtain ⟨j, rfl, HF, hj⟩ := hrel
          have S4 := Lib.hid (S3.out.below HF.out)
          by_cases hj2 : j < 2
          · have hy : ∃ k, wr.cell? ⟨Y, j, none⟩ = some (.string k) := by
              match j, hj2 with
              | 0, _ => exact ⟨_, (HF.out.cell (p := ⟨Y, 0, none⟩) y0.out.lt).trans y0.out.1⟩
              | 1, _ => exact ⟨_, (HF.out.cell (p := ⟨Y, 1, none⟩) y1.out.lt).trans y1.out.1⟩
            obtain ⟨k, hy⟩ := hy
            go_wp2_with fail
            refine (used_s S4.out.bk hl2.out k).mono ?_
            rintro r w5 ⟨rfl, rfl⟩
            go_wp2_with fail
            refine (used6 S4.out.row hl2.out k).mono ?_
            rintro r w5 ⟨rfl, rfl⟩
            go_wp2_with fail
            refine (left_s S4.out.bk hl2.out k).mono ?_
            rintro r w5 ⟨rfl, F⟩
            have S5 := Lib.hid (S4.out.below F)
            have HF5 := Lib.hid (HF.out.trans (F.mono HF.out.size))
            clear F HF S4 hy
            go_wp2_with fail
            refine (left6q S5.out.row hl2.out S5.out.bk.good k).mono ?_
            rintro r w6 ⟨rfl, m, rfl⟩
            have HF6 := Lib.hid (belowDrew HF5.out m)
            go_wp2
            go_roundw
            case rel => exact ⟨j + 1, by go_num, HF6, Lib.hid (by omega)⟩
            case measure => simp [intOf]; omega
          · go_wp2
            go_roundw
            case rel => exact ⟨i + 1, v2, L2, by go_num, S4, hL2, Lib.hid (by omega)⟩
            case measure => simp [intOf]; omega
    · obtain ⟨A, c, rfl, _⟩ := S.out.row.slice
      have hl := Lib.hid (show L.length ≤ 100000 by have := hLl.out; have := hi.out; have := hbig.out; omega)
      go_wp2_with fail
      refine (keys_s S.out.bk hl.out).mono ?_
      rintro r w2 ⟨vk, X, rfl, OX, SX, PX, F⟩
      have S2 := Lib.hid (S.out.below F)
      replace OX := Lib.hid OX
      have hXl : Hid (X.length = L.length) := Lib.hid (by rw [PX.length_eq, List.length_map])
      have hXm : Hid (∀ x ∈ X, x ∈ L.map (·.1)) := Lib.hid (fun x hx => PX.mem_iff.1 hx)
      replace SX := Lib.hid SX
      have hX41 : Hid (X.length ≤ 41) := Lib.hid (by rw [hXl.out]; have := hLl.out; have := hi.out; have := hbig.out; omega)
      clear F S PX
      obtain ⟨AX, cX, rfl, _⟩ := OX.out.slice
      go_wp2_with fail
      clear hlt
      go_loopw [111] (fun ii wr3 => ∃ (a : Nat), ii = .int .i64 a ∧ Hid (Below w2.heap.size w2 wr3) ∧ Hid (a ≤ X.length)) (fun ii _ => X.length - (intOf ii).toNat)
      case atStart => exact ⟨0, rfl, Lib.hid (Below.refl _ _), Lib.hid (Nat.zero_le _)⟩
      case round =>
        obtain ⟨a, rfl, HF, ha⟩ := hrel
        have SR := Lib.hid (S2.out.below HF.out)
        have OXr := Lib.hid (OX.out.below HF.out)
        have hX42 : X.length ≤ 41 := hX41.out
        by_cases hax : a < X.length
        · obtain ⟨gX, cX', e, _, hgs, _⟩ := OXr.out.pos (by omega)
          injection e with e1 e2 e3
          subst e1; subst e3
          obtain ⟨hz, -⟩ := OwnE.cel (E := kE_s) (j := 0) OXr.out hax rfl
          rw [show a * kE_s.sz + 0 = a by show a * 1 + 0 = a; omega] at hz
          obtain ⟨i0, hf⟩ := fidx_mem (hXm.out X[a] (List.getElem_mem hax))
          have hp : ∀ a', a = a' + 1 → ∃ y, Cel wr gX a' (.string y) ∧ sLt y X[a] = true := fun a' ha' => by
            subst ha'
            have h9 := OwnE.cel (E := kE_s) (j := 0) (i := a') OXr.out (by omega) rfl
            rw [show a' * kE_s.sz + 0 = a' by show a' * 1 + 0 = a'; omega] at h9
            exact ⟨_, h9, sorted_at6 SX.out hax⟩
          replace hp := Lib.hid hp
          obtain ⟨x, hx⟩ : ∃ x, x = X[a] := ⟨_, rfl⟩
          rw [← hx] at hz hf hp
          have hfi := Lib.hid (fI_some hf)
          have hi5 : decide ((i0 : Int) < 0) = false := by simp
          clear hx hf e2 hgs
          cases a with
          | zero =>
            clear hp
            go_wp2_with fail
            refine (find6 SR.out.row hl.out x).mono ?_
            rintro e w5 ⟨rfl, rfl⟩
            rw [hfi.out]
            go_wp2
            go_roundw
            case rel => exact ⟨1, by go_num, HF, Lib.hid (by omega)⟩
            case measure => simp [intOf]; omega
          | succ a' =>
            obtain ⟨y, ⟨hy, -⟩, d4⟩ := hp.out a' rfl
            have hwa : wrap64 (((a' + 1 : Nat) : Int) - 1) = (a' : Int) := by unfold wrap64; omega
            have hwb : wrap64 ((a' : Int) + 1 - 1) = (a' : Int) := by unfold wrap64; omega
            have hw3 : IntKind.i64.wrap (a' : Int) = (a' : Int) := by rw [IntKind.wrap_i64]; omega
            have hi1 : a' < X.length := by omega
            have hq : (binOp BinOp.geq 9 (.string y) (.string x)).run Try.prog wr = .ok (.bool false) wr := by
              show Result.ok (Value.bool (!(Op.bytesLess y.toList x.toList))) wr = _
              rw [show Op.bytesLess y.toList x.toList = true from d4]; rfl
            clear hp
            go_wp2_with fail
            refine (find6 SR.out.row hl.out x).mono ?_
            rintro e w5 ⟨rfl, rfl⟩
            rw [hfi.out]
            go_wp2
            go_roundw
            case rel => exact ⟨a' + 2, by go_num, HF, Lib.hid (by omega)⟩
            case measure => simp [intOf]; omega
        · have e5 : ((X.length : Int) == (L.length : Int)) = true := by rw [hXl.out]; simp
          go_wp2
          go_ret
          exact ⟨rfl, SR.out.bel⟩
end Go.Proofs.Ytdgcppglpmlgkaa
