/- Sets of bits: the next one, the next gap. -/
import Derived.Test.YtaflekpfpdnbcaaDoorBitS2
import Derived.WalkKit
import Derived.Deep.LoopGhost
import Derived.BigQuiet
namespace Go.Proofs.YtaflekpfpdnbcaaDoor
open Go.RowKit
set_option linter.unusedVariables false
set_option linter.unusedSimpArgs false
set_option linter.unusedSectionVars false
set_option maxRecDepth 100000

/-- The library's table of places. -/
def Tab (w : World) : Prop := ∀ j, j < Lib.deBruijn64tab.length → w.cell? ⟨0, j, none⟩ = some (.int .u8 (Lib.deBruijn64tab.getD j 0 : Nat))
theorem Tab.lt {w : World} (h : Tab w) : 0 < w.heap.size := World.block_lt_of_cell? w _ (h 0 (by decide))
theorem Tab.frb {S : Nat → Prop} {w w' : World} (h : Tab w) (hF : FrB S w w') (hs : ¬ S 0) : Tab w' := fun j hj => (World.cell?_of_block (hF.block _ h.lt hs)).trans (h j hj)
theorem Tab.low {B : Nat} {w w' : World} (h : Tab w) (hF : Below B w w') (hB : 0 < B) : Tab w' := fun j hj => (hF.cell (p := ⟨_, j, none⟩) hB).trans (h j hj)
theorem Tab.below {w w' : World} (h : Tab w) (hF : Below w.heap.size w w') : Tab w' := h.low hF h.lt

theorem tz_key (x a : Nat) (hx : x < 18446744073709551616) (hx0 : x ≠ 0) (hlow : x &&& (18446744073709551616 - x) = a) :
    IntKind.u64.wrap (bits BinOp.and IntKind.u64 (x : Int) (IntKind.u64.wrap (-(x : Int))) * 285870213051353865) / 288230376151711744 = ((a * 285870213051353865 % 18446744073709551616 / 288230376151711744 : Nat) : Int) := by
  have e1 : IntKind.u64.wrap (-(x : Int)) = ((18446744073709551616 - x : Nat) : Int) := by rw [IntKind.wrap_u64]; omega
  rw [e1, bits_and_u64_nat x _ hx (by omega), hlow, IntKind.wrap_u64]
  omega
theorem ctz_bits (x : Nat) (hx0 : x ≠ 0) (hx : x < 18446744073709551616) : Lib.ctz 64 x < 64 ∧ x.testBit (Lib.ctz 64 x) = true ∧ ∀ j, j < Lib.ctz 64 x → x.testBit j = false := by
  obtain ⟨m, hm, hk⟩ := Lib.ctzFrom_spec 64 x (by omega) (by omega)
  have he : Lib.ctz 64 x = Lib.ctzFrom 64 x := by unfold Lib.ctz; rw [if_neg hx0]
  rw [he]
  generalize Lib.ctzFrom 64 x = c at *
  refine ⟨hk, ?_, fun j hj => ?_⟩
  · rw [hm, Nat.mul_comm, Nat.testBit_mul_two_pow]
    simp
  · rw [hm, Nat.mul_comm, Nat.testBit_mul_two_pow]
    simp; omega

set_option maxHeartbeats 1000000 in
theorem tz_c (x : Nat) (hx : x < 18446744073709551616) (hx0 : x ≠ 0) {w : World} (hT : Tab w) :
    Calls Tryd.prog 57 #[.int .u64 x] w fun e w' => e = .returned (.int .i64 (Lib.ctz 64 x)) ∧ w = w' := by
  obtain ⟨hlow, hk⟩ := Lib.lowest_bit 64 x hx0 hx
  obtain ⟨hi, htab⟩ := Lib.deBruijn64_at _ hk
  have hcell := hT _ hi
  rw [htab] at hcell
  have key := tz_key x _ hx hx0 hlow
  have hb0 : ((x : Int) == 0) = false := beq_eq_false_iff_ne.mpr (by omega)
  generalize Lib.ctz 64 x = k at *
  obtain ⟨idx, hidx⟩ : ∃ idx, idx = 2 ^ k * 285870213051353865 % 18446744073709551616 / 288230376151711744 := ⟨_, rfl⟩
  rw [← hidx] at key hcell hi
  have hi64 : idx < 64 := hi
  clear hidx hlow htab hi hT
  go_enter Tryd.func57, Tryd.ntmps57
  go_wp2_with (simp only [key])
  go_ret
  exact ⟨rfl, rfl⟩

theorem held_c (w : World) (k : Int) (b : Bool) : Calls Tryd.prog 55 #[.int .i64 k, .bool b] w fun e w' => e = .returned (.tuple #[.int .i64 (if b then k else 0), .bool b]) ∧ w = w' := by
  cases b <;>
  · go_enter Tryd.func55, Tryd.ntmps55
    go_wp2
    go_ret2
    exact ⟨rfl, rfl⟩

theorem wr1 (i : Nat) (h : i < 65) : wrap64 (64 * (i : Int)) = 64 * (i : Int) := by unfold wrap64; omega
theorem wr2 (s : Nat) (h : s < 10000) : wrap64 (s : Int) = (s : Int) := by unfold wrap64; omega
theorem wr3 {s i c : Nat} (hs : s = 64 * i + c) (h : i < 65) (hc : c < 64) : s < 10000 := by omega
theorem wr4 {s i c : Nat} (hs : s = 64 * i + c) : 64 * (i : Int) + (c : Int) = (s : Int) := by omega
theorem wr5 {s i c : Nat} (hs : s = 64 * i + c) (h : i < 65) (hc : c < 64) : wrap64 (64 * (i : Int) + (c : Int)) = (s : Int) := by rw [wr4 hs]; exact wr2 s (wr3 hs h hc)
theorem xor_word (x A : Nat) (hx : x < 18446744073709551616) (hA : A < 18446744073709551616) : bits .xor .u64 (x : Int) (A : Int) = ((x ^^^ A : Nat) : Int) ∧ x ^^^ A < 18446744073709551616 :=
  ⟨bits_xor_u64_nat x A hx hA, Nat.xor_lt_two_pow (n := 64) hx hA⟩
theorem high_word (x r : Nat) (hx : x < 18446744073709551616) : ∃ y : Nat, IntKind.u64.wrap ((x : Int) / 2 ^ r * 2 ^ r) = (y : Int) ∧ y < 18446744073709551616 ∧ ∀ j, y.testBit j = (decide (r ≤ j) && x.testBit j) := by
  have e : ((x : Int) / 2 ^ r * 2 ^ r) = ((x / 2 ^ r * 2 ^ r : Nat) : Int) := by simp
  have hl : x / 2 ^ r * 2 ^ r ≤ x := Nat.div_mul_le_self _ _
  refine ⟨x / 2 ^ r * 2 ^ r, by rw [e, IntKind.wrap_u64]; generalize (x / 2 ^ r * 2 ^ r : Nat) = z at *; omega, by omega, fun j => ?_⟩
  rw [Nat.testBit_mul_two_pow]
  by_cases h : r ≤ j
  · rw [Nat.testBit_div_two_pow, show j - r + r = j by omega]
  · simp [h]

/-- What find looks for: the bits of the words, turned about or not. -/
def turned (ws : List Nat) (A : Nat) (j : Nat) : Bool := (bitAt ws j).xor (A.testBit (j % 64))
theorem turned_word {ws : List Nat} {A i j : Nat} (hi : i < ws.length) (hj : j < 64) : turned ws A (64 * i + j) = (ws[i] ^^^ A).testBit j := by
  unfold turned bitAt
  rw [show (64 * i + j) / 64 = i by omega, show (64 * i + j) % 64 = j by omega, Nat.testBit_xor, List.getD_eq_getElem?_getD, List.getElem?_eq_getElem hi]; rfl
/-- Where find stops. -/
def FindB (ws : List Nat) (A K : Nat) (n : Nat) (e : Ending) : Prop :=
  (∃ j, K ≤ j ∧ j < 64 * ws.length ∧ turned ws A j = true ∧ (∀ i, K ≤ i → i < j → turned ws A i = false) ∧ e = .returned (.tuple #[.int .i64 j, .bool (decide (j < n))])) ∨
  ((∀ i, K ≤ i → i < 64 * ws.length → turned ws A i = false) ∧ e = .returned (.tuple #[.int .i64 0, .bool false]))
theorem find_hit {ws : List Nat} {A K i n c y : Nat} (hi : i < ws.length) (hK : K / 64 ≤ i) (hno : ∀ j, K ≤ j → j < 64 * i → turned ws A j = false)
    (hy : ∀ j, j < 64 → y.testBit j = (decide (64 * i + j ≥ K) && (ws[i] ^^^ A).testBit j)) (hc : c < 64) (h1 : y.testBit c = true) (h2 : ∀ j, j < c → y.testBit j = false) :
    FindB ws A K n (.returned (.tuple #[.int .i64 (64 * (i : Int) + (c : Int)), .bool (decide (64 * (i : Int) + (c : Int) < (n : Int)))])) := by
  have hyc := hy c hc
  rw [h1] at hyc
  have hge : K ≤ 64 * i + c := by
    by_cases h : K ≤ 64 * i + c
    · exact h
    · simp [show ¬ (64 * i + c ≥ K) from h] at hyc
  refine .inl ⟨64 * i + c, hge, by omega, ?_, fun j hj1 hj2 => ?_, by rw [show 64 * (i : Int) + (c : Int) = ((64 * i + c : Nat) : Int) by omega, show decide (((64 * i + c : Nat) : Int) < (n : Int)) = decide (64 * i + c < n) from decide_eq_decide.2 (by omega)]⟩
  · rw [turned_word hi hc]
    rw [show decide (64 * i + c ≥ K) = true from decide_eq_true hge, Bool.true_and] at hyc
    exact hyc.symm
  · by_cases hj : j < 64 * i
    · exact hno j hj1 hj
    · obtain ⟨d, rfl⟩ : ∃ d, j = 64 * i + d := ⟨j - 64 * i, by omega⟩
      rw [turned_word hi (by omega)]
      have := hy d (by omega)
      rw [h2 d (by omega)] at this
      rw [show decide (64 * i + d ≥ K) = true from decide_eq_true hj1, Bool.true_and] at this
      exact this.symm
theorem find_on {ws : List Nat} {A K i y : Nat} (hi : i < ws.length) (hno : ∀ j, K ≤ j → j < 64 * i → turned ws A j = false)
    (hy : ∀ j, j < 64 → y.testBit j = (decide (64 * i + j ≥ K) && (ws[i] ^^^ A).testBit j)) (h0 : y = 0) : ∀ j, K ≤ j → j < 64 * (i + 1) → turned ws A j = false := by
  intro j h1 h2
  by_cases hj : j < 64 * i
  · exact hno j h1 hj
  · obtain ⟨d, rfl⟩ : ∃ d, j = 64 * i + d := ⟨j - 64 * i, by omega⟩
    rw [turned_word hi (by omega)]
    have := hy d (by omega)
    rw [h0, Nat.zero_testBit] at this
    rw [show decide (64 * i + d ≥ K) = true from decide_eq_true h1, Bool.true_and] at this
    exact this.symm

set_option maxHeartbeats 4000000 in
theorem find_c {w : World} {p g : Nat} {ws : List Nat} {X : List Bool} (h : BitS w p g ws X) (hT : Tab w) (K A : Nat) (kv av : Int) (hk : (kv = K ∨ (kv < 0 ∧ K = 0))) (hK : K ≤ 4096) (hA : A < 18446744073709551616) (ha : av = A) :
    Calls Tryd.prog 56 #[.pointer (some ⟨p, 0, none⟩), .int .i64 kv, .int .u64 av] w fun e w' => FindB ws A K X.length e ∧ ∃ m, w' = w.drewN m := by
  subst ha
  have hlen := h.len
  have hwl := h.inv.len
  have hmx : (if kv < 0 then 0 else kv) = (K : Int) := by split <;> omega
  have c0 := h.c0.1; have c1 := h.c1.1
  obtain ⟨q, hq⟩ : ∃ q, q = K / 64 := ⟨_, rfl⟩
  obtain ⟨r, hr⟩ : ∃ r, r = K % 64 := ⟨_, rfl⟩
  have hr64 : r < 64 := by omega
  have eq1 : (K : Int) / 64 = (q : Int) := by omega
  have eq2 : (K : Int) % 64 = (r : Int) := by omega
  have hwl64 : ws.length ≤ 64 := by omega
  have H := Lib.hid h
  replace hk := Lib.hid hk; replace hwl := Lib.hid hwl; replace hq := Lib.hid hq; replace hr := Lib.hid hr; replace hT := Lib.hid hT
  clear h
  go_enter Tryd.func56, Tryd.ntmps56
  go_wp2_with fail
  go_loopw [8] (fun ii wr => ∃ i : Nat, ii = .int .i64 i ∧ wr = w ∧ Hid (K / 64 ≤ i) ∧ Hid (i ≤ 64 ∨ i ≤ K / 64) ∧ Hid (∀ j, K ≤ j → j < 64 * i → turned ws A j = false)) (fun ii _ => ws.length - (intOf ii).toNat)
  case atStart => exact ⟨q, rfl, rfl, Lib.hid (by rw [hq.out]; exact Nat.le_refl _), Lib.hid (.inr (by rw [hq.out]; exact Nat.le_refl _)), Lib.hid (fun j h1 h2 => by have := hq.out; omega)⟩
  case round =>
    obtain ⟨i, rfl, rfl, hiK, hi64, hno⟩ := hrel
    by_cases hlt : i < ws.length
    · have hwx := H.out.inv.lt _ (List.getElem_mem hlt)
      have hc := (H.out.wd _ hlt).1
      obtain ⟨hx1, hx2⟩ := xor_word (ws[i]) A hwx hA
      obtain ⟨y0, hy0, hy0l, hy0b⟩ := high_word (ws[i] ^^^ A) r hx2
      obtain ⟨x, hx⟩ : ∃ x, x = ws[i] ^^^ A := ⟨_, rfl⟩
      obtain ⟨v, hv⟩ : ∃ v, v = ws[i] := ⟨_, rfl⟩
      rw [← hx] at hx1 hx2 hy0 hy0b
      rw [← hv] at hx1 hc
      have hi5 : i < 65 := by omega
      have eq3 : IntKind.i64.wrap (i : Int) = (i : Int) := by rw [IntKind.wrap_i64]; omega
      by_cases hiq : i = q
      · subst hiq
        have hcq : ((i : Int) == (i : Int)) = true := by simp
        have hyb : Hid (∀ j, j < 64 → y0.testBit j = (decide (64 * i + j ≥ K) && (ws[i] ^^^ A).testBit j)) := Lib.hid (fun j hj => by
          rw [hy0b j, ← hx]; have h1 := hq.out; have h2 := hr.out
          congr 1
          rw [decide_eq_decide]
          omega)
        have eq4 : IntKind.i64.wrap (r : Int) = (r : Int) := by rw [IntKind.wrap_i64]; omega
        have hr65 : (r : Int) ≤ 64 := by omega
        clear hx hv hy0b
        by_cases hz : y0 = 0
        · have hb0 : ((y0 : Int) != 0) = false := by rw [hz]; rfl
          have hon := Lib.hid (find_on hlt hno.out hyb.out hz)
          have hiK2 := Lib.hid (show K / 64 ≤ i + 1 by have := hiK.out; omega)
          clear hyb hno hz
          go_wp2
          go_roundw
          case rel => exact ⟨i + 1, by go_num, by first | trivial | rfl, hiK2, Lib.hid (.inl (by omega)), hon⟩
          case measure => simp [intOf]; omega
        · have hb0 : ((y0 : Int) != 0) = true := by simp; omega
          obtain ⟨k1, k2, k3⟩ := ctz_bits y0 hz hy0l
          have hit := Lib.hid (find_hit (n := X.length) hlt hiK.out hno.out hyb.out k1 k2 k3)
          go_wp2_with fail
          refine (tz_c y0 hy0l hz hT.out).mono ?_
          rintro e w1 ⟨rfl, rfl⟩
          generalize Lib.ctz 64 y0 = c at *
          have ew1 := wr1 i hi5
          replace hit := Lib.hid hit.out
          clear hyb hno hz k2 k3
          go_wp2_with fail
          go_quiet (fail)
          go_wp2
          all_goals go_ret2
          all_goals exact ⟨hit.out, _, rfl⟩
      · have hcq : ((i : Int) == (q : Int)) = false := by rw [beq_eq_false_iff_ne]; omega
        have hyb : Hid (∀ j, j < 64 → x.testBit j = (decide (64 * i + j ≥ K) && (ws[i] ^^^ A).testBit j)) := Lib.hid (fun j hj => by
          have h1 := hq.out; have h2 := hiK.out
          rw [hx, show decide (64 * i + j ≥ K) = true from decide_eq_true (by omega), Bool.true_and])
        clear hx hv hy0b hy0 hy0l
        by_cases hz : x = 0
        · have hb0 : ((x : Int) != 0) = false := by rw [hz]; rfl
          have hon := Lib.hid (find_on hlt hno.out hyb.out hz)
          have hiK2 := Lib.hid (show K / 64 ≤ i + 1 by have := hiK.out; omega)
          clear hyb hno hz
          go_wp2
          go_roundw
          case rel => exact ⟨i + 1, by go_num, by first | trivial | rfl, hiK2, Lib.hid (.inl (by omega)), hon⟩
          case measure => simp [intOf]; omega
        · have hb0 : ((x : Int) != 0) = true := by simp; omega
          obtain ⟨k1, k2, k3⟩ := ctz_bits x hz hx2
          have hit := Lib.hid (find_hit (n := X.length) hlt hiK.out hno.out hyb.out k1 k2 k3)
          go_wp2_with fail
          refine (tz_c x hx2 hz hT.out).mono ?_
          rintro e w1 ⟨rfl, rfl⟩
          generalize Lib.ctz 64 x = c at *
          have ew1 := wr1 i hi5
          replace hit := Lib.hid hit.out
          clear hyb hno hz k2 k3
          go_wp2_with fail
          go_quiet (fail)
          go_wp2
          all_goals go_ret2
          all_goals exact ⟨hit.out, _, rfl⟩
    · have hno2 := Lib.hid (show ∀ j, K ≤ j → j < 64 * ws.length → turned ws A j = false from fun j h1 h2 => hno.out j h1 (by omega))
      have hlt2 : ws.length ≤ i := by omega
      clear hno
      go_wp2
      go_ret2
      exact ⟨.inr ⟨hno2.out, rfl⟩, 0, rfl⟩
end Go.Proofs.YtaflekpfpdnbcaaDoor
