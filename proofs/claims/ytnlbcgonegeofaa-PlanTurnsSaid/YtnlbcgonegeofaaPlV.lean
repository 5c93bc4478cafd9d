/- PlanTurns. No condition. -/
import Derived.Test.YtnlbcgonegeofaaPlB
import Derived.Test.YtnlbcgonegeofaaMake
import Derived.Deep.RegionHeld3
import Derived.Deep.DeepCutAuto
namespace Go.Proofs.Ytnlbcgonegeofaa
open Go.RowKit
set_option linter.unusedVariables false
set_option linter.unusedSimpArgs false
set_option maxRecDepth 100000

theorem int_eq {k : IntKind} {a b : Int} (h : a = b) : Value.int k a = Value.int k b := by rw [h]
/-- make([]int, n): each cell is a cell with 0. -/
theorem make_ints {t : TypeId} (ht : Try.prog.underlying t = some (.slice 3)) (n : Nat) (hn : n ≤ 1000000) : ∃ Z : Array Value, (∀ j : Nat, j < n → Z[j]? = some (.int .i64 0)) ∧ ∀ w : World, (Instr.makeSlice t (.int .i64 (n : Int)) (.int .i64 (n : Int))).run Try.prog w = .ok (.slice (some ⟨w.heap.size, 0, none⟩) n n) (w.alloc (.cells Z 3)) := by
  obtain ⟨Z, s1, z1, k1⟩ := make_eq ht info3 rfl rfl .i64 .i64 n (by omega) (by omega)
  refine ⟨Z, fun j hj => ?_, k1⟩
  have h1 := z1 j 0 hj (by decide)
  rw [Nat.mul_one, Nat.add_zero] at h1
  rw [h1]; rfl

/-- The counters of ticks, behind i of them. -/
structure TuSt (W0 wr : World) (D N : Nat) (xs : List Sl) (T i : Nat) : Prop where
  b : Below D W0 wr
  lt : D < wr.heap.size
  c : ∀ j : Nat, j < N → Cel wr D j (.int .i64 (tk xs T j i : Nat))
theorem TuSt.bel {W0 wr w2 : World} {D N T i : Nat} {xs : List Sl} (h : TuSt W0 wr D N xs T i) (F : Below wr.heap.size wr w2) : TuSt W0 w2 D N xs T i :=
  ⟨h.b.trans (F.mono (Nat.le_of_lt h.lt)), Nat.lt_of_lt_of_le h.lt F.size, fun j hj => (h.c j hj).bel F h.lt⟩
theorem TuSt.drew {W0 wr : World} {D N T i : Nat} {xs : List Sl} (h : TuSt W0 wr D N xs T i) : TuSt W0 wr.drew D N xs T i := h.bel (belD (Below.refl _ _))
theorem TuSt.next {W0 wr : World} {D N T i o m : Nat} {xs : List Sl} (h : TuSt W0 wr D N xs T i) (hT : 0 < T) (hat : atO xs (T + i) = (o : Int)) (hm : m = tk xs T o i) : TuSt W0 (wr.setCell ⟨D, o, none⟩ (.int .i64 ((m + 1 : Nat) : Int))) D N xs T (i + 1) := by
  refine ⟨h.b.setCell (p := ⟨D, o, none⟩) (Nat.le_refl _) _, by rw [World.size_setCell]; exact h.lt, fun j hj => ?_⟩
  rw [tk_succ hT, hat]
  by_cases hjo : j = o
  · subst hjo
    rw [if_pos rfl, ← hm]
    exact (h.c j hj).same _
  · rw [if_neg (by omega), Nat.add_zero]
    exact (h.c j hj).other (.inr (by omega)) _

set_option maxHeartbeats 8000000 in
theorem turns9_walk (A : Option Addr) (c : Nat) (xs : List Sl) (tn ti : Int) (W : World) (r : RowAt Sl.cells 2 W A xs) (z : xs.length * 16 ≤ 140737488351232) (wt : (Lit.int .u64 ti).wf = true) :
    Calls Try.prog 4 #[.slice A xs.length c, .int .i64 tn, .int .u64 ti] W fun e w' => e = .returned (.bool true) ∧ Below W.heap.size W w' := by
  obtain ⟨t, rfl, ht⟩ := wf_u64 wt
  have key1 : Hid (∀ X, Below W.heap.size W X → SlA X A xs) := Lib.hid fun X hX => r.below hX
  have HB := Lib.hid (Below.refl W.heap.size W)
  have hl : Hid (xs.length ≤ 4611686018427387904) := Lib.hid (by omega)
  obtain ⟨n, hn⟩ : ∃ n, n = xs.length := ⟨_, rfl⟩
  rw [← hn]
  clear r
  by_cases hg1 : 8 < n
  · obtain ⟨d1, d1n⟩ : decide ((8 : Int) < (n : Int)) = true ∧ decide (8 < n) = true := ⟨decide_eq_true (by omega), decide_eq_true hg1⟩
    clear hg1 hn z wt ht
    go_enter Try.func4, Try.ntmps4
    go_wp2_with (first | (go_at_call 9; with_reducible refine (alive09_c _).mono ?_; rintro e w4 ⟨rfl, F⟩; have HB2 := Lib.hid (belT HB.out F); replace HB := HB2; clear HB2; clear F) | fail)
    go_ret
    exact ⟨rfl, HB.out⟩
  obtain ⟨d1, d1n⟩ : decide ((8 : Int) < (n : Int)) = false ∧ decide (8 < n) = false := ⟨decide_eq_false (by omega), decide_eq_false (by omega)⟩
  have hn8 : Hid (n ≤ 8) := Lib.hid (by omega)
  replace hn := Lib.hid hn
  replace ht := Lib.hid ht
  by_cases hok : Ok xs tn
  · have K := Lib.hid hok
    have G := Lib.hid hok.gd
    have hR := Lib.hid (okR_yes hok)
    obtain ⟨C, hC⟩ : ∃ C, C = cyc xs := ⟨_, rfl⟩
    replace hC := Lib.hid hC
    obtain ⟨N, rfl⟩ := Int.eq_ofNat_of_zero_le (show 0 ≤ tn by have := hok.t1; omega)
    have hN8 : Hid (1 ≤ N ∧ N ≤ 8) := Lib.hid (by have := hok.t1; have := hok.t2; omega)
    clear hok hg1 z wt
    go_enter Try.func4, Try.ntmps4
    go_upto_region 6 with (first | (go_at_call 9; with_reducible refine (alive09_c _).mono ?_; rintro e w4 ⟨rfl, F⟩; have HB2 := Lib.hid (belT HB.out F); replace HB := HB2; clear HB2; clear F) | (go_at_call 11; with_reducible refine (right_C (key1.out _ HB.out) hl.out hn.out hR.out).mono ?_; rintro e w4 ⟨rfl, rfl⟩) | (go_at_call 10; with_reducible refine (of_ok (key1.out _ HB.out) hn.out K.out hC.out).mono ?_; rintro e w4 ⟨A1, c1, rfl, P1, F1⟩; replace P1 := Lib.hid P1; replace F1 := Lib.hid F1) | fail)
    have PV := Lib.hid (PVar.new (n := n) (c := c1) (C := C) P1.out)
    have HB2 := Lib.hid (belA (belT HB.out F1.out) (.cells #[.slice A1 n c1, .int .u64 C] 27))
    replace HB := HB2
    clear F1 P1 HB2
    generalize w4.alloc (.cells #[.slice A1 n c1, .int .u64 C] 27) = W0 at *
    generalize w4.heap.size = B at *
    have z0 := PV.out.c0
    have z1 := PV.out.c1
    by_cases hc160 : 160 < C
    · obtain ⟨x1, x1n⟩ : decide ((160 : Int) < (C : Int)) = true ∧ decide (160 < C) = true := ⟨decide_eq_true (by omega), decide_eq_true hc160⟩
      clear hc160
      go_wp2_with (first | (go_at_call 12; with_reducible refine (cyc_C _).mono ?_; rintro e w4 ⟨rfl, F⟩; have HB2 := Lib.hid (belT HB.out F); replace HB := HB2; clear HB2; have PV2 := Lib.hid (PV.out.bel F); replace PV := PV2; clear PV2; have z0 := PV.out.c0; have z1 := PV.out.c1; clear F) | fail)
      go_ret
      exact ⟨rfl, HB.out⟩
    obtain ⟨x1, x1n⟩ : decide ((160 : Int) < (C : Int)) = false ∧ decide (160 < C) = false := ⟨decide_eq_false (by omega), decide_eq_false (by omega)⟩
    obtain ⟨T, hT⟩ : ∃ T : Nat, T = t % 1152921504606846976 := ⟨_, rfl⟩
    have hm : Go.bits .and .u64 (t : Int) 1152921504606846975 = (T : Int) := by
      rw [and60 (by have := ht.out; unfold U64 at this; omega)]; omega
    replace hm := Lib.hid hm
    have hT2 : T < 1152921504606846976 := by omega
    have hT3 : IntKind.u64.wrap (1 + (T : Int)) = ((T + 1 : Nat) : Int) := by rw [wrapU (by omega)]; omega
    obtain ⟨T1, hT1⟩ : ∃ T1 : Nat, T1 = T + 1 := ⟨_, rfl⟩
    rw [← hT1] at hT3
    have hT1b : Hid (1 ≤ T1 ∧ T1 ≤ 1152921504606846976) := Lib.hid (by omega)
    obtain ⟨Z, hZ, kZ⟩ := make_ints (t := 44) Try.underlying44 N (by have := hN8.out; omega)
    replace hZ := Lib.hid hZ
    replace hT := Lib.hid hT
    have hC160 : Hid (C ≤ 160) := Lib.hid (by omega)
    clear hT2 hT1 hc160
    replace hm := hm.out
    go_upto_region 8 with (first | (go_at_call 12; with_reducible refine (cyc_C _).mono ?_; rintro e w4 ⟨rfl, F⟩; have HB2 := Lib.hid (belT HB.out F); replace HB := HB2; clear HB2; have PV2 := Lib.hid (PV.out.bel F); replace PV := PV2; clear PV2; have z0 := PV.out.c0; have z1 := PV.out.c1; clear F) | fail)
    obtain ⟨V0, hV0⟩ : ∃ V0, V0 = w4 := ⟨_, rfl⟩
    subst hV0
    go_upto_region 11 with fail
    obtain ⟨D, hD⟩ : ∃ D, D = V0.heap.size := ⟨_, rfl⟩
    have S : Hid (TuSt V0 (V0.alloc (.cells Z 3)) D N xs T1 0) := Lib.hid ⟨by rw [hD]; exact belA (Below.refl _ _) _, by rw [hD]; simp, fun j hj => by
      have := Cel.new V0 Z 3 j (.int .i64 0) (hZ.out j hj)
      rw [hD]; simpa [tk, sumF] using this⟩
    have keyW : Hid (∀ X, Below D V0 X → PVar X B A1 n c1 C xs ∧ Below W.heap.size W X) := Lib.hid fun X hX => by
      rw [hD] at hX; exact ⟨PV.out.bel hX, belT HB.out hX⟩
    have keyS : Hid (∀ X, Below D V0 X → X.cell? ⟨B, 0, none⟩ = some (.slice A1 n c1) ∧ X.cell? ⟨B, 1, none⟩ = some (.int .u64 C)) := Lib.hid fun X hX => ⟨(keyW.out X hX).1.c0, (keyW.out X hX).1.c1⟩
    try rw [← hD]
    clear z0 z1 PV HB kZ hZ hT3 hm
    generalize V0.alloc (.cells Z 3) = W1 at *
    replace hD := Lib.hid hD
    have z0 := (keyS.out _ S.out.b).1
    have z1 := (keyS.out _ S.out.b).2
    go_upto_region 12 with (first | (go_at_call 12; with_reducible refine (cyc_C _).mono ?_; rintro e w4 ⟨rfl, F⟩; have S2 := Lib.hid (S.out.bel F); replace S := S2; clear S2 F) | fail)
    clear z0 z1 x1 x1n
    go_loopw [9, 55] (fun ev iv wr => ∃ i : Nat, iv = .int .u64 i ∧ ev = .int .i64 (ed xs T1 i : Nat) ∧ Hid (i ≤ C) ∧ Hid (TuSt V0 wr D N xs T1 i)) (fun _ iv _ => C - (intOf iv).toNat)
    case atStart => exact ⟨0, rfl, by simp [ed, sumF], Lib.hid (Nat.zero_le _), S⟩
    case round =>
      clear S
      obtain ⟨i, rfl, rfl, hi, S⟩ := hrel
      by_cases hlt : i < C
      · obtain ⟨g1, g1n⟩ := dlt_t hlt
        have z0 := (keyS.out _ S.out.b).1
        have z1 := (keyS.out _ S.out.b).2
        obtain ⟨io, hio, hoo⟩ := atO_own G.out (t := T1 + i) (by have := hT1b.out; omega)
        have hown := K.out.own io hio
        obtain ⟨o, hoN⟩ := Int.eq_ofNat_of_zero_le hown.1
        rw [hoN] at hoo hown
        obtain ⟨be, hbe⟩ : ∃ be, atE xs (T1 + i) = be := ⟨_, rfl⟩
        obtain ⟨p1, p2⟩ := at_add (xs := xs) (t := T1 + i) (by have := hT1b.out; omega) 1
        rw [Nat.one_mul, ← hC.out] at p1 p2
        rw [hoo] at p1
        rw [hbe] at p2
        obtain ⟨Ti, hTi⟩ : ∃ Ti, Ti = T1 + i := ⟨_, rfl⟩
        obtain ⟨Tj, hTj⟩ : ∃ Tj, Tj = Ti + C := ⟨_, rfl⟩
        have b0 := hC160.out
        have b1 := hT1b.out
        have f1 := wadd (a := T1) (b := i) (d := Ti) hTi.symm (by unfold U64; omega)
        have f2 := wadd (a := Ti) (b := C) (d := Tj) hTj.symm (by unfold U64; omega)
        have f3 := wsuc (a := i) (d := i + 1) rfl (by unfold U64; omega)
        have u1 : Hid (Ti < U64) := Lib.hid (by unfold U64; omega)
        have u2 : Hid (Tj < U64) := Lib.hid (by unfold U64; omega)
        have hed := ed_succ (xs := xs) (t := T1) (n := i) (by omega)
        rw [hbe] at hed
        obtain ⟨edi, hedi⟩ : ∃ edi, edi = ed xs T1 i := ⟨_, rfl⟩
        have hedb : edi ≤ 160 := by rw [hedi]; have := ed_le xs T1 i; omega
        obtain ⟨m, hm⟩ : ∃ m, m = tk xs T1 o i := ⟨_, rfl⟩
        have hmb : m ≤ 160 := by rw [hm]; have := tk_le xs T1 o i; omega
        rw [← hedi] at hed ⊢
        have hatN := Lib.hid hoo
        rw [← hTi] at hoo hbe p1 p2
        rw [← hTj] at p1 p2
        obtain ⟨f4, f5⟩ := isuc (a := m) (d := m + 1) rfl (by omega)
        obtain ⟨f6, f7⟩ := isuc (a := edi) (d := edi + 1) rfl (by omega)
        have hoN2 : o < N := by omega
        obtain ⟨f8, f9⟩ := dle_f hoN2
        have f10 : decide ((o : Int) < 0) = false := decide_eq_false (by omega)
        have f11 : (be != be) = false := by simp
        have S9 := Lib.hid (fun (X : World) (h : TuSt V0 X D N xs T1 i) => h.next (show 0 < T1 by omega) hatN.out hm)
        have cm : Hid (∀ X, TuSt V0 X D N xs T1 i → Cel X D o (.int .i64 (m : Nat))) := Lib.hid (fun X h => by rw [hm]; exact h.c o hoN2)
        replace hoo := Lib.hid hoo; replace hbe := Lib.hid hbe; replace p1 := Lib.hid p1; replace p2 := Lib.hid p2; replace hed := Lib.hid hed; replace hedi := Lib.hid hedi; replace hm := Lib.hid hm
        have hlt2 := Lib.hid hlt
        clear hown hio hoN hTi hTj b0 b1 hedb hmb hlt
        go_upto_region 15 with (first | (go_at_call 13; with_reducible refine (at_C G.out hn.out hC.out (keyW.out _ S.out.b).1.pl rfl u1.out hoo.out hbe.out).mono ?_; rintro e w4 ⟨rfl, F⟩; have S2 := Lib.hid (S.out.bel F); replace S := S2; clear S2 F) | fail)
        clear z0 z1
        have SD := Lib.hid S.out.drew
        have z0 := (keyS.out _ S.out.b).1
        have z1 := (keyS.out _ S.out.b).2
        go_cut [14, 15] (fun a b wx => a = .int .i64 (o : Int) ∧ b = .bool be ∧ Hid (TuSt V0 wx D N xs T1 i))
        case first =>
          go_region_held3 (fun w' => w'.cell? ⟨B, 0, none⟩ = some (.slice A1 n c1) ∧ w'.cell? ⟨B, 1, none⟩ = some (.int .u64 C)) (first | exact keyS.out _ SD.out.b | exact keyS.out _ S6.out.b | exact keyS.out _ S7.out.b) (first
            | (go_at_call 12; refine (cyc_C _).mono ?_; rintro e w6 ⟨rfl, F⟩; have S6 := Lib.hid (SD.out.bel F); clear F)
            | (go_at_call 13; refine (at_C G.out hn.out hC.out (keyW.out _ S6.out.b).1.pl rfl u2.out p1.out p2.out).mono ?_; rintro e w7 ⟨rfl, F⟩; have S7 := Lib.hid (S6.out.bel F); clear F)
            | fail)
          all_goals (go_wp2_with fail; go_meet)
          all_goals exact ⟨rfl, rfl, S7⟩
        case rest =>
          obtain ⟨rfl, rfl, S7⟩ := hcut
          clear S SD z0 z1
          have hc := cm.out _ S7.out
          have bi : i < 160 := by have := hlt2.out; have := hC160.out; omega
          obtain ⟨hc1, hc2⟩ := hc
          have S8 := Lib.hid (S9.out _ S7.out)
          cases be
          · go_wp2_with fail
            go_roundw
            case rel => exact ⟨i + 1, (by have := hlt2.out; have := hC160.out; first | rfl | go_num), (by rw [hed.out]; simp), Lib.hid hlt2.out, S8⟩
            case measure => have := hlt2.out; have := hC160.out; simp [intOf]; omega
          · go_wp2_with fail
            go_roundw
            case rel => exact ⟨i + 1, (by have := hlt2.out; have := hC160.out; first | rfl | go_num), (by rw [hed.out]; simp), Lib.hid hlt2.out, S8⟩
            case measure => have := hlt2.out; have := hC160.out; simp [intOf]; omega
      · obtain rfl : i = C := by have := hi.out; omega
        obtain ⟨g1, g1n⟩ := dlt_f (Nat.le_refl i)
        have hed : ed xs T1 i = n := by rw [hC.out, ed_cycle G.out, hn.out]
        rw [hed]
        clear hed hlt hi
        go_upto_region 24 with fail
        clear g1 g1n
        have hsumN : sumF (fun k => lens xs k) N = i := by rw [hC.out]; exact lens_sum (fun q hq => by have := K.out.own q hq; omega)
        go_loopw [16, 106] (fun sv kv wr => ∃ k : Nat, kv = .int .i64 k ∧ sv = .int .i64 (sumF (fun k => lens xs k) k : Nat) ∧ Hid (k ≤ N) ∧ Hid (TuSt V0 wr D N xs T1 i)) (fun _ kv _ => N - (intOf kv).toNat)
        case atStart => exact ⟨0, rfl, rfl, Lib.hid (Nat.zero_le _), S⟩
        case round =>
          clear S
          obtain ⟨k, rfl, rfl, hk, S⟩ := hrel
          by_cases hlt : k < N
          · obtain ⟨g1, g1n⟩ := dlt_t hlt
            obtain ⟨hc1, hc2⟩ := S.out.c k hlt
            rw [hC.out, tk_cycle G.out] at hc1
            obtain ⟨l, hl0⟩ : ∃ l, l = lens xs k := ⟨_, rfl⟩
            rw [← hl0] at hc1
            have hlb : l ≤ 160 := by rw [hl0]; have := lens_le G.out (k : Int); have := hC.out; have := hC160.out; omega
            obtain ⟨sk, hsk⟩ : ∃ sk, sk = sumF (fun k => lens xs k) k := ⟨_, rfl⟩
            have hskb : sk ≤ 160 := by rw [hsk]; have := sumF_mono (fun k => lens xs k) (Nat.le_of_lt hlt); have := hC160.out; omega
            have hsk2 : sumF (fun k => lens xs k) (k + 1) = sk + l := by rw [hsk, hl0]; rfl
            rw [← hsk]
            obtain ⟨f1, f2⟩ := isum (a := sk) (b := l) (d := sk + l) rfl (by omega)
            replace hl0 := Lib.hid hl0; replace hsk := Lib.hid hsk; replace hsk2 := Lib.hid hsk2; replace hlb := Lib.hid hlb; replace hskb := Lib.hid hskb
            replace hsumN := Lib.hid hsumN
            have bk : k < 8 := by have := hN8.out; omega
            have hlt2 := Lib.hid hlt
            go_upto_region 28 with fail
            clear hc1 hc2 g1 g1n
            go_loopw [19, 113] (fun mv jv w3 => ∃ j : Nat, jv = .int .i64 j ∧ mv = .int .i64 (lens (xs.take j) k : Nat) ∧ Hid (j ≤ n) ∧ Hid (TuSt V0 w3 D N xs T1 i)) (fun _ jv _ => n - (intOf jv).toNat)
            case atStart => exact ⟨0, rfl, by simp [lens], Lib.hid (Nat.zero_le _), S⟩
            case round =>
              clear S
              obtain ⟨j, rfl, rfl, hj, S⟩ := hrel
              by_cases hlt3 : j < n
              · obtain ⟨g1, g1n⟩ := dlt_t hlt3
                have hlt' : j < xs.length := by rw [← hn.out]; exact hlt3
                obtain ⟨b, off, hA, hbs, c0, c1⟩ := (key1.out _ (keyW.out _ S.out.b).2).at hlt'
                subst hA
                obtain ⟨O, hO⟩ : ∃ O, O = xs[j].owner := ⟨_, rfl⟩
                obtain ⟨L, hL⟩ : ∃ L, L = xs[j].len := ⟨_, rfl⟩
                have hnL := G.out.n hlt'
                rw [← hL] at hnL
                rw [← hO] at c0
                rw [← hL] at c1
                obtain ⟨ln, hln⟩ : ∃ ln, ln = xs[j].n := ⟨_, rfl⟩
                rw [← hln] at hnL
                obtain rfl : L = (ln : Int) := hnL.2.2.symm
                have hls := lens_take (k : Int) hlt'
                rw [← hO, ← hln] at hls
                have S2 := Lib.hid (S.out.bel (belA (Below.refl wr.heap.size wr) (.cells #[.int .i64 O, .int .i64 (ln : Int)] 46)))
                obtain ⟨lj, hlj⟩ : ∃ lj, lj = lens (xs.take j) k := ⟨_, rfl⟩
                have hljb : lj ≤ 160 := by rw [hlj]; have := lens_pre G.out (k : Int) (Nat.le_of_lt hlt'); have := pre_mono G.out (Nat.le_of_lt hlt') (Nat.le_refl _); have h9 : pre xs xs.length = i := hC.out.symm; have := hC160.out; omega
                rw [← hlj] at hls ⊢
                obtain ⟨f3, f4⟩ := isum (a := lj) (b := ln) (d := lj + ln) rfl (by omega)
                by_cases how : O = (k : Int)
                · rw [if_pos how] at hls
                  have e1 : (O == (k : Int)) = true := beq_iff_eq.mpr how
                  replace hls := Lib.hid hls
                  have hlt4 := Lib.hid hlt3
                  have bj : j < 8 := by have := hn8.out; omega
                  clear how hO hL hlj hnL hln S hlt3
                  go_wp2
                  go_roundw
                  case rel => exact ⟨j + 1, (by have := hlt4.out; have := hn8.out; first | rfl | go_num), (by rw [hls.out]; first | rfl | go_num), Lib.hid hlt4.out, S2⟩
                  case measure => have := hlt4.out; have := hn8.out; simp [intOf]; omega
                · rw [if_neg how, Nat.add_zero] at hls
                  have e1 : (O == (k : Int)) = false := beq_eq_false_iff_ne.mpr how
                  replace hls := Lib.hid hls
                  have hlt4 := Lib.hid hlt3
                  have bj : j < 8 := by have := hn8.out; omega
                  clear how hO hL hlj hnL hln S hlt3
                  go_wp2
                  go_roundw
                  case rel => exact ⟨j + 1, (by have := hlt4.out; have := hn8.out; first | rfl | go_num), (by rw [hls.out]; first | rfl | go_num), Lib.hid hlt4.out, S2⟩
                  case measure => have := hlt4.out; have := hn8.out; simp [intOf]; omega
              · obtain rfl : j = n := by have := hj.out; omega
                obtain ⟨g1, g1n⟩ := dlt_f (Nat.le_refl j)
                have hlj : lens (xs.take j) k = l := by rw [hl0.out, hn.out, List.take_length]
                rw [hlj]
                clear hlj hlt3 hj
                go_wp2
                go_roundw
                case rel => exact ⟨k + 1, (by have := hN8.out; have := hlt2.out; first | rfl | go_num), (by rw [hsk2.out]; have := hskb.out; have := hlb.out; first | rfl | go_num), Lib.hid hlt2.out, S⟩
                case measure => have := hlt2.out; have := hN8.out; simp [intOf]; omega
          · obtain rfl : k = N := by have := hk.out; omega
            obtain ⟨g1, g1n⟩ := dlt_f (Nat.le_refl k)
            rw [hsumN]
            have f1 : IntKind.u64.wrap (i : Int) = (i : Int) := wrapU (by have := hC160.out; omega)
            have z0 := (keyS.out _ S.out.b).1
            have z1 := (keyS.out _ S.out.b).2
            clear hlt hk
            go_wp2_with (first | (go_at_call 12; with_reducible refine (cyc_C _).mono ?_; rintro e w4 ⟨rfl, F⟩; have S2 := Lib.hid (S.out.bel F); replace S := S2; clear S2 F) | fail)
            go_ret
            exact ⟨rfl, (keyW.out _ S.out.b).2⟩
  · have K := Lib.hid hok
    have hR := Lib.hid (okR_no hok)
    clear hok hg1 z wt
    go_enter Try.func4, Try.ntmps4
    go_wp2_with (first | (go_at_call 9; with_reducible refine (alive09_c _).mono ?_; rintro e w4 ⟨rfl, F⟩; have HB2 := Lib.hid (belT HB.out F); replace HB := HB2; clear HB2; clear F) | (go_at_call 11; with_reducible refine (right_C (key1.out _ HB.out) hl.out hn.out hR.out).mono ?_; rintro e w4 ⟨rfl, rfl⟩) | fail)
    go_ret
    exact ⟨rfl, HB.out⟩
end Go.Proofs.Ytnlbcgonegeofaa
