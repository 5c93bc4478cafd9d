/- Plan's Kth: what it answers. No condition. -/
import Derived.Test.YtnlbcgonegeofaaPlH
namespace Go.Proofs.Ytnlbcgonegeofaa
open Go.RowKit
set_option linter.unusedVariables false
set_option linter.unusedSimpArgs false
set_option maxRecDepth 100000

theorem mineN_pos {xs : List Sl} {who : Int} : 0 < mineN xs who ↔ ∃ i, Own xs who i := by
  unfold mineN
  constructor
  · intro h
    obtain ⟨s, hs⟩ := List.exists_mem_of_length_pos h
    rw [List.mem_filter] at hs
    obtain ⟨i, h1, h2⟩ := List.getElem_of_mem hs.1
    exact ⟨i, h1, by rw [h2]; simpa using hs.2⟩
  · rintro ⟨i, h1, h2⟩
    exact List.length_pos_of_mem (a := xs[i]) (List.mem_filter.2 ⟨List.getElem_mem h1, by simp [h2]⟩)
theorem mineN_le (xs : List Sl) (who : Int) : mineN xs who ≤ xs.length := List.length_filter_le _ _
/-- Too far away: the k-th slot begins no earlier than so many cycles on. -/
theorem kthV_far {xs : List Sl} (g : Gd xs) {who : Int} {t K v : Nat} (ho : ∃ i, Own xs who i) (hv : v * mineN xs who ≤ K - 1) (hU : U64 ≤ t + v * cyc xs) : kthV xs who t (K : Int) = (0, false) := by
  have h := start_spec g ho (cnt xs who t + (K - 1))
  have h2 := cnt_cycles g who t v
  have h3 := st_le h.1 (b := t + v * cyc xs) (by rw [h2, h.2]; omega)
  have h4 := (en_bd g h.1).1
  exact kthV_no g (m := cnt xs who t + (K - 1)) (.inr (.inr ⟨ho, by simp, by omega⟩))

/-- What Kth knows behind n of the last slots. -/
def KSt (xs : List Sl) (who : Int) (T : Nat) (R : Nat × Bool) (t' e n : Nat) (ok : Bool) : Prop :=
  (ok = false → R = (0, false) ∧ e = 0) ∧ (ok = true → t' < U64 ∧ cnt xs who t' = T + n ∧ (n = 0 ∨ e = en xs (startOf xs who (T + (n - 1))) ∧ e < U64))

theorem next_cC {w : World} {c C : Nat} {A : Option Addr} {xs : List Sl} (g : Gd xs) (hC : C = cyc xs) (hr : PlAt w A xs) (who : Int) {t : Nat} (ht : t < U64) {f e : Nat} {b : Bool} (hx : nxV xs who t = (f, e, b)) :
    Calls Try.prog 16 #[.agg #[.slice A xs.length c, .int .u64 C], .int .i64 who, .int .u64 t] w fun r w' => r = .returned (.tuple #[.int .u64 f, .int .u64 e, .bool b]) ∧ Below w.heap.size w w' := by
  subst hC
  have := next_c (c := c) g hr who ht
  rw [hx] at this
  exact this

theorem plus_1 (w : World) {a : Nat} (h : a + 1 < U64) : Calls Try.prog 24 #[.int .u64 a, .int .u64 1] w fun e w' => e = .returned (.int .u64 ((a + 1 : Nat) : Int)) ∧ w = w' := plus_yes w (b := 1) h
theorem plus_01 (w : World) : Calls Try.prog 24 #[.int .u64 0, .int .u64 1] w fun e w' => e = .returned (.int .u64 1) ∧ w = w' := plus_yes w (a := 0) (b := 1) (by decide)

set_option maxHeartbeats 4000000 in
theorem kth_c {w : World} {c : Nat} {A : Option Addr} {xs : List Sl} (g : Gd xs) (hr : PlAt w A xs) (who : Int) {t : Nat} (ht : t < U64) {k : Int} (hkw : -9223372036854775808 ≤ k ∧ k < 9223372036854775808) :
    Calls Try.prog 18 #[.agg #[.slice A xs.length c, .int .u64 (cyc xs : Nat)], .int .i64 who, .int .u64 t, .int .i64 k] w fun e w' => e = .returned (.tuple #[.int .u64 ((kthV xs who t k).1 : Nat), .bool (kthV xs who t k).2]) ∧ Below w.heap.size w w' := by
  obtain ⟨R, hR⟩ : ∃ R, R = kthV xs who t k := ⟨_, rfl⟩
  rw [← hR]
  replace hR := Lib.hid hR
  have hb := Lib.hid (belA (Below.refl w.heap.size w) (.cells #[.slice A xs.length c, .int .u64 (cyc xs : Nat)] 27))
  have hcb := cyc_bd g
  have key1 : Hid (∀ X, Below w.heap.size w X → PlAt X A xs) := Lib.hid fun X hX => hr.below hX
  have key2 : Hid (∀ X, Below (w.alloc (.cells #[.slice A xs.length c, .int .u64 (cyc xs : Nat)] 27)).heap.size (w.alloc (.cells #[.slice A xs.length c, .int .u64 (cyc xs : Nat)] 27)) X → X.cell? ⟨w.heap.size, 0, none⟩ = some (.slice A xs.length c) ∧ X.cell? ⟨w.heap.size, 1, none⟩ = some (.int .u64 (cyc xs : Nat)) ∧ Below w.heap.size w X) := Lib.hid fun X hX =>
    ⟨(hX.cell (p := ⟨w.heap.size, 0, none⟩) (by simp)).trans (Cel.new w #[.slice A xs.length c, .int .u64 (cyc xs : Nat)] _ 0 _ rfl).1, (hX.cell (p := ⟨w.heap.size, 1, none⟩) (by simp)).trans (Cel.new w #[.slice A xs.length c, .int .u64 (cyc xs : Nat)] _ 1 _ rfl).1, belT hb.out hX⟩
  have G := Lib.hid g
  have hl := g.small
  obtain ⟨C, hC⟩ : ∃ C, C = cyc xs := ⟨_, rfl⟩
  rw [← hC] at hb key2
  rw [← hC]
  have hCU : Hid (C < U64) := Lib.hid (by rw [hC]; unfold U64; omega)
  replace hC := Lib.hid hC
  have hsz1 : Hid (w.heap.size < (w.alloc (.cells #[.slice A xs.length c, .int .u64 C] 27)).heap.size) := Lib.hid (by simp)
  have hT := Lib.hid ht
  have hkw2 := Lib.hid hkw
  clear hr g ht hcb hb hkw
  go_enter Try.func18, Try.ntmps18
  go_wp2_with fail
  generalize hBn : w.heap.size = B at *
  generalize hW0 : w.alloc (.cells #[.slice A xs.length c, .int .u64 C] 27) = W0 at *
  have hr0 := Lib.hid (Below.refl W0.heap.size W0)
  replace hBn := Lib.hid hBn; replace hW0 := Lib.hid hW0
  go_loopw [10, 21] (fun mv kv wr => ∃ m j : Nat, mv = .int .u64 m ∧ kv = .int .i64 j ∧ Hid (j ≤ xs.length) ∧ Hid (m = mineN (xs.take j) who) ∧ Hid (Below W0.heap.size W0 wr)) (fun _ kv _ => xs.length - (intOf kv).toNat)
  case atStart => exact ⟨0, 0, rfl, rfl, Lib.hid (Nat.zero_le _), Lib.hid (by simp [mineN]), hr0⟩
  case round =>
    obtain ⟨m, j, rfl, rfl, hj, hm, hB⟩ := hrel
    obtain ⟨z0, z1, z2⟩ := key2.out wr hB.out
    by_cases hlt : j < xs.length
    · obtain ⟨b, off, hA, hbs, c0, c1, c2⟩ := (key1.out wr z2).at hlt
      subst hA
      obtain ⟨O, hO⟩ : ∃ O, O = xs[j].owner := ⟨_, rfl⟩
      obtain ⟨P, hP⟩ : ∃ P, P = pre xs j := ⟨_, rfl⟩
      obtain ⟨P2, hP2⟩ : ∃ P2, P2 = pre xs (j + 1) := ⟨_, rfl⟩
      rw [← hO] at c0
      rw [← hP] at c1
      rw [← hP2] at c2
      have hB2 := Lib.hid (belA hB.out (.cells #[.int .i64 O, .int .u64 P, .int .u64 P2] 53))
      have hmt := mineN_take who hlt
      rw [← hO, ← hm.out] at hmt
      have hmj : m ≤ 70 := by rw [hm.out]; have h1 := mineN_le (xs.take j) who; rw [List.length_take] at h1; omega
      by_cases how : O = who
      · rw [if_pos how] at hmt
        have e1 : (O == who) = true := beq_iff_eq.mpr how
        have e2 : IntKind.u64.wrap ((m : Int) + 1) = ((m + 1 : Nat) : Int) := by rw [wrapU (by omega)]; omega
        replace hmt := Lib.hid hmt.symm
        clear hm hmj hO hP hP2 how z2
        go_wp2
        go_roundw
        case rel => exact ⟨m + 1, j + 1, rfl, by go_num, Lib.hid hlt, hmt, hB2⟩
        case measure => simp [intOf]; omega
      · rw [if_neg how] at hmt
        have e1 : (O == who) = false := beq_eq_false_iff_ne.mpr how
        replace hmt := Lib.hid hmt.symm
        clear hm hmj hO hP hP2 how z2
        go_wp2
        go_roundw
        case rel => exact ⟨m, j + 1, rfl, by go_num, Lib.hid hlt, hmt, hB2⟩
        case measure => simp [intOf]; omega
    · obtain rfl : j = xs.length := by have := hj.out; omega
      have hm2 := hm.out
      rw [List.take_length] at hm2
      rw [← hBn.out] at z2
      have hz2 := Lib.hid z2
      clear hlt hj hm z2
      by_cases hk1 : k < 1
      · have d1 : decide (k < 1) = true := decide_eq_true hk1
        have hres := hR.out
        rw [kthV_no (m := 0) G.out (.inr (.inl hk1))] at hres
        replace hres := Lib.hid hres
        clear hk1 hm2
        go_wp2
        go_ret2
        exact ⟨by rw [hres.out]; rfl, hz2.out⟩
      have d1 : decide (k < 1) = false := decide_eq_false hk1
      by_cases hm0 : m = 0
      · have hres := hR.out
        rw [kthV_no (m := 0) G.out (.inl (fun h => by have := mineN_pos.2 h; omega))] at hres
        replace hres := Lib.hid hres
        subst hm0
        clear hk1 hm2
        go_wp2
        go_ret2
        exact ⟨by rw [hres.out]; rfl, hz2.out⟩
      obtain ⟨e0, e0n⟩ : ((m : Int) == 0) = false ∧ (m == 0) = false := ⟨beq_eq_false_iff_ne.mpr (by omega), beq_eq_false_iff_ne.mpr (by omega)⟩
      have hkw3 := hkw2.out
      obtain ⟨K, hkK⟩ : ∃ K : Nat, k = ((K + 1 : Nat) : Int) := ⟨(k - 1).toNat, by omega⟩
      have hml : m ≤ 70 := by rw [hm2]; have := mineN_le xs who; omega
      obtain ⟨v, hv, v1, v2, v3, v4, v5, v6⟩ := div_facts (a := K) (show 0 < m by omega)
      obtain ⟨q, hq, q1, q2, q3, _, _, _, q7⟩ := rem_facts (a := K) (show 0 < m by omega)
      have hvq := Nat.div_add_mod K m
      rw [← hv, ← hq, Nat.mul_comm] at hvq
      have hvK : v ≤ K := by rw [hv]; exact Nat.div_le_self _ _
      have f1 : IntKind.i64.wrap (k - 1) = (K : Int) := by rw [IntKind.wrap_i64]; omega
      have f2 : IntKind.u64.wrap (K : Int) = (K : Int) := wrapU (by omega)
      have f3 : IntKind.u64.wrap (v : Int) = (v : Int) := wrapU (by omega)
      have f4 : IntKind.u64.wrap (q : Int) = (q : Int) := wrapU (by omega)
      have f5 : IntKind.u64.wrap (1 + (q : Int)) = ((1 + q : Nat) : Int) := by rw [wrapU (by omega)]; omega
      have f6 : wrap64 (k - 1) = (K : Int) := by unfold wrap64; omega
      have ho : ∃ i, Own xs who i := mineN_pos.1 (by omega)
      have hvU : Hid (v < U64) := Lib.hid (by unfold U64; omega)
      have hvm : v * mineN xs who ≤ K + 1 - 1 := by rw [← hm2]; omega
      have hfacts := Lib.hid (And.intro hvq (And.intro hm2 (And.intro ho q7)))
      have hqs : q ≤ 70 := by omega
      have hkK2 := Lib.hid hkK
      by_cases hg : v * C < U64
      · by_cases hg2 : t + v * C < U64
        · have hcn := cnt_cycles G.out who t v
          rw [← hm2, ← hC.out] at hcn
          obtain ⟨T, hTe⟩ : ∃ T, T = cnt xs who t + v * m := ⟨_, rfl⟩
          obtain ⟨t1, ht1⟩ : ∃ t1, t1 = t + v * C := ⟨_, rfl⟩
          obtain ⟨gp, hgp⟩ : ∃ gp, gp = v * C := ⟨_, rfl⟩
          have hS0 : Hid (KSt xs who T R t1 0 0 true) := Lib.hid ⟨(fun h => by cases h), fun _ => ⟨by rw [ht1]; exact hg2, by rw [ht1, hcn, hTe, Nat.add_zero], .inl rfl⟩⟩
          have hTK : Hid (T + q = cnt xs who t + (K + 1 - 1)) := Lib.hid (by omega)
          rw [← hgp] at hg hg2 ht1
          have hgv := Lib.hid (show v * C < U64 by rw [← hgp]; exact hg)
          have hgp2 := Lib.hid hgp.symm
          replace hg2 := Lib.hid hg2
          replace ht1 := Lib.hid ht1.symm
          replace hfacts := hfacts.out.2.2.1
          replace hfacts := Lib.hid hfacts
          clear hg hm2 hvq hvm ho hml hvK hkw3 hk1 hv hq hkK hcn hTe hgp
          obtain ⟨z0, z1, z2⟩ := key2.out wr hB.out
          clear z2
          go_wp2_with (first | (go_at_call 23; with_reducible refine (times_yes _ hvU.out hgv.out).mono ?_; rintro e w2 ⟨rfl, rfl⟩; rw [hgp2.out]) | (go_at_call 20; with_reducible refine (add_yes _ hg2.out).mono ?_; rintro e w2 ⟨rfl, rfl⟩; rw [ht1.out]) | fail)
          clear z0 z1
          go_loopw [2, 15, 16, 64] (fun tv okv ev nv wr2 => ∃ (t' e n : Nat) (ok : Bool), tv = .int .u64 t' ∧ okv = .bool ok ∧ ev = .int .u64 e ∧ nv = .int .u64 n ∧ Hid (n ≤ 1 + q) ∧ Hid (KSt xs who T R t' e n ok) ∧ Hid (Below W0.heap.size W0 wr2)) (fun _ _ _ nv _ => 1 + q - (intOf nv).toNat)
          case atStart => exact ⟨t1, 0, 0, true, rfl, rfl, rfl, rfl, Lib.hid (by omega), hS0, hB⟩
          case round =>
            obtain ⟨t', e, n, ok, rfl, rfl, rfl, rfl, hn, hS, hB2⟩ := hrel
            obtain ⟨z0, z1, z2⟩ := key2.out wr hB2.out
            by_cases hlt : n < 1 + q
            · obtain ⟨d2, d2n⟩ : decide ((n : Int) < ((1 + q : Nat) : Int)) = true ∧ decide (n < 1 + q) = true := ⟨decide_eq_true (by omega), decide_eq_true (by omega)⟩
              have e9 : IntKind.u64.wrap ((n : Int) + 1) = ((n + 1 : Nat) : Int) := by rw [wrapU (by omega)]; omega
              cases ok with
              | false =>
                have hres := Lib.hid (hS.out.1 rfl).1
                rw [← hBn.out] at z2
                replace z2 := Lib.hid z2
                clear hS
                go_wp2
                go_ret2
                exact ⟨by rw [hres.out]; rfl, z2.out⟩
              | true =>
                obtain ⟨k1, k2, k3⟩ := hS.out.2 rfl
                obtain ⟨s, hs, hx, hcs, hse, hts⟩ := nx_step G.out hfacts.out t'
                replace k1 := Lib.hid k1
                have hpl := key1.out wr z2
                by_cases hfin : en xs s < U64
                · rw [if_pos hfin] at hx
                  obtain ⟨E, hE⟩ : ∃ E, E = en xs s := ⟨_, rfl⟩
                  rw [← hE] at hx hfin hse
                  have hnew : Hid (KSt xs who T R (s + 1) E (n + 1) true) := Lib.hid ⟨(fun h => by cases h), fun _ => ⟨by omega, by rw [hcs, k2]; omega, .inr ⟨by rw [hE, hs, k2]; rfl, hfin⟩⟩⟩
                  have hs2 := Lib.hid (show s + 1 < U64 by omega)
                  replace hx := Lib.hid hx
                  have hpl2 := Lib.hid hpl
                  clear hs hcs hse hts hfin hE hS k2 k3 z2 hpl
                  go_wp2_with (first | (go_at_call 16; with_reducible refine (next_cC G.out hC.out hpl2.out who k1.out hx.out).mono ?_; rintro e w2 ⟨rfl, F⟩; replace F := Lib.hid F) | (go_at_call 24; with_reducible refine (plus_1 _ hs2.out).mono ?_; rintro e w3 ⟨rfl, rfl⟩) | fail)
                  go_roundw
                  case rel => exact ⟨s + 1, E, n + 1, true, rfl, rfl, rfl, by go_num, Lib.hid (by omega), hnew, Lib.hid (belT hB2.out F.out)⟩
                  case measure => simp [intOf]; omega
                · rw [if_neg hfin] at hx
                  have hres : R = (0, false) := by
                    rw [hR.out, hkK2.out]
                    refine kthV_no G.out (m := cnt xs who t') (.inr (.inr ⟨hfacts.out, ?_, by rw [← hs]; omega⟩))
                    rw [k2]; have := hTK.out; simp only [Int.toNat_natCast]; omega
                  have hnew : Hid (KSt xs who T R 1 0 (n + 1) false) := Lib.hid ⟨fun _ => ⟨hres, rfl⟩, (fun h => by cases h)⟩
                  replace hx := Lib.hid hx
                  have hpl2 := Lib.hid hpl
                  clear hs hcs hse hts hfin hS k2 k3 z2 hpl hres
                  go_wp2_with (first | (go_at_call 16; with_reducible refine (next_cC G.out hC.out hpl2.out who k1.out hx.out).mono ?_; rintro e w2 ⟨rfl, F⟩; replace F := Lib.hid F) | (go_at_call 24; with_reducible refine (plus_01 _).mono ?_; rintro e w3 ⟨rfl, rfl⟩) | fail)
                  go_roundw
                  case rel => exact ⟨1, 0, n + 1, false, rfl, rfl, rfl, by go_num, Lib.hid (by omega), hnew, Lib.hid (belT hB2.out F.out)⟩
                  case measure => simp [intOf]; omega
            · obtain ⟨d2, d2n⟩ : decide ((n : Int) < ((1 + q : Nat) : Int)) = false ∧ decide (n < 1 + q) = false := ⟨decide_eq_false (by omega), decide_eq_false (by omega)⟩
              have hnq : n = 1 + q := by have := hn.out; omega
              have hres : R = (e, ok) := by
                cases ok with
                | false => obtain ⟨h1, h2⟩ := hS.out.1 rfl; rw [h1, h2]
                | true =>
                  obtain ⟨k1, k2, k3⟩ := hS.out.2 rfl
                  obtain ⟨k4, k5⟩ := k3.resolve_left (by omega)
                  rw [hR.out, hkK2.out]
                  refine kthV_yes G.out (by omega) hfacts.out ?_ k5
                  rw [k4]
                  have := hTK.out
                  simp only [Int.toNat_natCast]
                  congr 2; omega
              rw [← hBn.out] at z2
              replace z2 := Lib.hid z2; replace hres := Lib.hid hres; replace hnq := Lib.hid hnq
              clear hS
              go_wp2
              go_ret2
              exact ⟨by rw [hres.out]; rfl, z2.out⟩
        · have hgv := Lib.hid hg
          have hg2' := Lib.hid (show U64 ≤ t + v * C by omega)
          have hres := hR.out
          rw [hkK, kthV_far G.out ho hvm (by rw [← hC.out]; omega)] at hres
          obtain ⟨gp, hgp⟩ : ∃ gp, gp = v * C := ⟨_, rfl⟩
          rw [← hgp] at hg2'
          have hgpU : Hid (gp < U64) := Lib.hid (by rw [hgp]; exact hg)
          have hgp2 := Lib.hid hgp.symm
          replace hres := Lib.hid hres
          clear hg hg2 hm2 hvq hvm ho hml hvK hkw3 hk1 hv hq hkK hgp
          obtain ⟨d2, d2n⟩ : decide ((0 : Int) < ((1 + q : Nat) : Int)) = true ∧ decide (0 < 1 + q) = true := ⟨decide_eq_true (by omega), decide_eq_true (by omega)⟩
          go_wp2_with (first | (go_at_call 23; with_reducible refine (times_yes _ hvU.out hgv.out).mono ?_; rintro e w2 ⟨rfl, rfl⟩; rw [hgp2.out]) | (go_at_call 20; with_reducible refine (add_no _ hT.out hgpU.out hg2'.out).mono ?_; rintro e w2 ⟨rfl, rfl⟩) | fail)
          go_loopw [2, 15, 16, 64] (fun tv okv ev nv wr2 => (∃ x : Int, tv = .int .u64 x) ∧ okv = .bool false ∧ (∃ x : Int, ev = .int .u64 x) ∧ nv = .int .u64 0 ∧ wr2 = wr) (fun _ _ _ _ _ => 0)
          case atStart => exact ⟨⟨_, rfl⟩, rfl, ⟨_, rfl⟩, rfl, rfl⟩
          case round =>
            obtain ⟨⟨x1, rfl⟩, rfl, ⟨x2, rfl⟩, rfl, rfl⟩ := hrel
            go_wp2
            go_ret2
            exact ⟨by rw [hres.out]; rfl, hz2.out⟩
      · have hres := hR.out
        rw [hkK, kthV_far G.out ho hvm (by rw [← hC.out]; omega)] at hres
        have hg2 := Lib.hid (show U64 ≤ v * C by omega)
        replace hres := Lib.hid hres
        clear hg hm2 hvq hvm ho hml hvK hkw3 hk1 hv hq hkK
        go_wp2_with (first | (go_at_call 23; with_reducible refine (times_no _ hvU.out hg2.out).mono ?_; rintro e w2 ⟨rfl, rfl⟩) | fail)
        go_ret2
        exact ⟨by rw [hres.out]; rfl, hz2.out⟩
end Go.Proofs.Ytnlbcgonegeofaa
