/- The document's answer on plans: Kth, Right. No condition. -/
import Derived.Test.YtnlbcgonegeofaaPlX
namespace Go.Proofs.Ytnlbcgonegeofaa
open Go.RowKit
set_option linter.unusedVariables false
set_option linter.unusedSimpArgs false
set_option maxRecDepth 100000

theorem start_mono {xs : List Sl} (g : Gd xs) {who : Int} (ho : ∃ i, Own xs who i) {a b : Nat} (h : a < b) : startOf xs who a < startOf xs who b := by
  have h1 := start_spec g ho a
  have h2 := start_spec g ho b
  exact st_lt h1.1 (by rw [h1.2, h2.2]; exact h)
theorem en_mono {xs : List Sl} (g : Gd xs) {who : Int} (ho : ∃ i, Own xs who i) {a b : Nat} (h : a ≤ b) : en xs (startOf xs who a) ≤ en xs (startOf xs who b) := by
  rcases Nat.lt_or_ge a b with h1 | h1
  · have h2 := start_spec g ho a
    have h3 := start_spec g ho b
    have h4 := en_le g h2.1 h3.1 (start_mono g ho h1)
    have h5 := en_bd g h3.1
    omega
  · have : a = b := by omega
    subst this; exact Nat.le_refl _
theorem nx_step {xs : List Sl} (g : Gd xs) {who : Int} (ho : ∃ i, Own xs who i) (t : Nat) :
    ∃ s, s = startOf xs who (cnt xs who t) ∧ nxV xs who t = (if en xs s < U64 then (s, en xs s, true) else (0, 0, false)) ∧ cnt xs who (s + 1) = cnt xs who t + 1 ∧ s < en xs s ∧ t ≤ s := by
  have h := start_spec g ho (cnt xs who t)
  exact ⟨_, rfl, nxV_of g ⟨h.1, h.2⟩, by rw [cnt_after h.1, h.2], (en_bd g h.1).1, st_le h.1 (by omega)⟩
theorem kthV_no {xs : List Sl} (g : Gd xs) {who : Int} {t : Nat} {k : Int} {m : Nat} (h : (¬ ∃ i, Own xs who i) ∨ k < 1 ∨ (∃ i, Own xs who i) ∧ m ≤ cnt xs who t + (k.toNat - 1) ∧ U64 ≤ en xs (startOf xs who m)) : kthV xs who t k = (0, false) := by
  unfold kthV
  rw [if_neg]
  rintro ⟨h1, h2, h3⟩
  rcases h with h | h | h
  · exact h h2
  · omega
  · have := en_mono g h2 h.2.1; omega
theorem kthV_yes {xs : List Sl} (g : Gd xs) {who : Int} {t : Nat} {k : Int} (h1 : 1 ≤ k) (ho : ∃ i, Own xs who i) {e : Nat} (he : e = en xs (startOf xs who (cnt xs who t + (k.toNat - 1)))) (hlt : e < U64) : kthV xs who t k = (e, true) := by
  unfold kthV
  subst he
  rw [if_pos ⟨h1, ho, hlt⟩]

set_option maxHeartbeats 2000000 in
theorem rkth_c {w : World} {c : Nat} {A : Option Addr} {xs : List Sl} (g : Gd xs) (hr : SlA w A xs) (who : Int) {t : Nat} (ht : t < U64) {k : Int} (hk : k ≤ 9000000000000000000) :
    Calls Try.prog 19 #[.slice A xs.length c, .int .i64 who, .int .u64 t, .int .i64 k] w fun e w' => e = .returned (.tuple #[.int .u64 ((kthV xs who t k).1 : Nat), .bool (kthV xs who t k).2]) ∧ Below w.heap.size w w' := by
  obtain ⟨R, hR⟩ : ∃ R, R = kthV xs who t k := ⟨_, rfl⟩
  rw [← hR]
  by_cases h1 : k < 1
  · rw [kthV_no (m := 0) g (.inr (.inl h1))] at hR
    have d1 : decide (k < 1) = true := decide_eq_true h1
    replace hR := Lib.hid hR
    clear h1
    go_enter Try.func19, Try.ntmps19
    go_wp2
    go_ret2
    exact ⟨by rw [hR.out]; rfl, Below.refl _ _⟩
  replace hR := Lib.hid hR
  obtain ⟨K, rfl⟩ := Int.eq_ofNat_of_zero_le (show 0 ≤ k by omega)
  have hK : Hid (1 ≤ K) := Lib.hid (by omega)
  have d1 : decide ((K : Int) < 1) = false := decide_eq_false (by omega)
  have hkl : K ≤ 9000000000000000000 := by omega
  have G := Lib.hid g
  have key1 : Hid (∀ X, Below w.heap.size w X → SlA X A xs) := Lib.hid fun X hX => hr.below hX
  have hT := Lib.hid ht
  clear h1 hk hr g ht
  go_enter Try.func19, Try.ntmps19
  go_wp2_with fail
  go_loopw [2, 10, 11] (fun tv ev nv wr => ∃ t' e n : Nat, tv = .int .u64 t' ∧ ev = .int .u64 e ∧ nv = .int .i64 n ∧ Hid (n ≤ K) ∧ Hid (t' < U64) ∧ Hid (cnt xs who t' = cnt xs who t + n) ∧ Hid (n = 0 ∨ (∃ i, Own xs who i) ∧ e = en xs (startOf xs who (cnt xs who t + (n - 1))) ∧ e < U64) ∧ Hid (Below w.heap.size w wr)) (fun _ _ nv _ => K - (intOf nv).toNat)
  case atStart => exact ⟨t, 0, 0, rfl, rfl, rfl, Lib.hid (Nat.zero_le _), hT, Lib.hid rfl, Lib.hid (.inl rfl), Lib.hid (Below.refl _ _)⟩
  case round =>
    obtain ⟨t', e, n, rfl, rfl, rfl, hn, ht', hc, hd, hB⟩ := hrel
    by_cases hlt : n < K
    · by_cases ho : ∃ i, Own xs who i
      · obtain ⟨s, hs, hx, hcs, hse, hts⟩ := nx_step G.out ho t'
        by_cases hfin : en xs s < U64
        · rw [if_pos hfin] at hx
          obtain ⟨E, hE⟩ : ∃ E, E = en xs s := ⟨_, rfl⟩
          rw [← hE] at hx hfin hse
          have e1 : IntKind.u64.wrap ((s : Int) + 1) = ((s + 1 : Nat) : Int) := by unfold U64 at hfin; rw [wrapU (by omega)]; omega
          have hnew := Lib.hid (show n + 1 = 0 ∨ (∃ i, Own xs who i) ∧ E = en xs (startOf xs who (cnt xs who t + (n + 1 - 1))) ∧ E < U64 from .inr ⟨ho, by rw [hE, hs, hc.out]; rfl, hfin⟩)
          have hcs2 := Lib.hid (show cnt xs who (s + 1) = cnt xs who t + (n + 1) by rw [hcs, hc.out]; omega)
          have hs2 := Lib.hid (show s + 1 < U64 by omega)
          replace hx := Lib.hid hx
          clear hs hcs hse hts ho hfin hE hd
          go_wp2_with (first | (go_at_call 17; refine (rnext_c G.out (key1.out _ hB.out) who ht'.out).mono ?_; rw [hx.out]; rintro e w2 ⟨rfl, F⟩; replace F := Lib.hid F) | fail)
          go_roundw
          case rel => exact ⟨s + 1, E, n + 1, rfl, rfl, by go_num, Lib.hid (by omega), hs2, hcs2, hnew, Lib.hid (belT hB.out F.out)⟩
          case measure => simp [intOf]; omega
        · rw [if_neg hfin] at hx
          have hres := hR.out
          rw [kthV_no G.out (m := cnt xs who t') (.inr (.inr ⟨ho, by rw [hc.out]; omega, by rw [← hs]; omega⟩))] at hres
          replace hx := Lib.hid hx; replace hres := Lib.hid hres
          clear hs hcs hse hts ho hfin hd
          go_wp2_with (first | (go_at_call 17; refine (rnext_c G.out (key1.out _ hB.out) who ht'.out).mono ?_; rw [hx.out]; rintro e w2 ⟨rfl, F⟩; replace F := Lib.hid F) | fail)
          go_ret2
          exact ⟨by rw [hres.out]; rfl, belT hB.out F.out⟩
      · have hx := nxV_none (t := t') ho
        have hres := hR.out
        rw [kthV_no (m := 0) G.out (.inl ho)] at hres
        replace hx := Lib.hid hx; replace hres := Lib.hid hres
        clear ho hd
        go_wp2_with (first | (go_at_call 17; refine (rnext_c G.out (key1.out _ hB.out) who ht'.out).mono ?_; rw [hx.out]; rintro e w2 ⟨rfl, F⟩; replace F := Lib.hid F) | fail)
        go_ret2
        exact ⟨by rw [hres.out]; rfl, belT hB.out F.out⟩
    · have hnK : n = K := by have := hn.out; omega
      have hres := hR.out
      have hd2 := hd.out.resolve_left (by have := hK.out; omega)
      rw [kthV_yes (e := e) G.out (by have := hK.out; omega) hd2.1 (by rw [hd2.2.1, hnK]; rfl) hd2.2.2] at hres
      replace hres := Lib.hid hres; replace hnK := Lib.hid hnK
      clear hd hd2
      go_wp2
      go_ret2
      exact ⟨by rw [hres.out]; rfl, hB.out⟩

/-- May slots be, for so many tenants? -/
structure Ok (xs : List Sl) (tn : Int) : Prop where
  l1 : 1 ≤ xs.length
  l2 : xs.length ≤ 64
  t1 : 1 ≤ tn
  t2 : tn ≤ 8
  own : ∀ i (h : i < xs.length), 0 ≤ xs[i].owner ∧ xs[i].owner < tn ∧ 1 ≤ xs[i].len ∧ xs[i].len ≤ 1000
  has : ∀ t : Int, 0 ≤ t → t < tn → ∃ i, Own xs t i
theorem Ok.gd {xs : List Sl} {tn : Int} (h : Ok xs tn) : Gd xs := ⟨by have := h.l1; omega, by have := h.l2; omega, fun i hi => (h.own i hi).2.2⟩
noncomputable def okR (xs : List Sl) (tn : Int) : Bool := by classical exact decide (Ok xs tn)
theorem okR_yes {xs : List Sl} {tn : Int} (h : Ok xs tn) : okR xs tn = true := by simp [okR, h]
theorem okR_no {xs : List Sl} {tn : Int} (h : ¬ Ok xs tn) : okR xs tn = false := by simp [okR, h]
/-- A slot that may not be. -/
def badS (s : Sl) (tn : Int) : Prop := s.owner < 0 ∨ tn ≤ s.owner ∨ s.len < 1 ∨ 1000 < s.len
theorem bad_no {xs : List Sl} {tn : Int} {i : Nat} (hi : i < xs.length) (h : badS xs[i] tn) : ¬ Ok xs tn := fun k => by
  have := k.own i hi; unfold badS at h; omega

set_option maxHeartbeats 2000000 in
theorem right_c {w : World} {c : Nat} {A : Option Addr} {xs : List Sl} (hr : SlA w A xs) (hl : xs.length ≤ 4611686018427387904) (tn : Int) :
    Calls Try.prog 11 #[.slice A xs.length c, .int .i64 tn] w fun e w' => e = .returned (.bool (okR xs tn)) ∧ w = w' := by
  obtain ⟨R, hR⟩ : ∃ R, R = okR xs tn := ⟨_, rfl⟩
  rw [← hR]
  replace hR := Lib.hid hR
  by_cases hg : 1 ≤ xs.length ∧ xs.length ≤ 64 ∧ 1 ≤ tn ∧ tn ≤ 8
  · obtain ⟨a1, a2, a3, a4⟩ := hg
    obtain ⟨d1, d1n⟩ : decide ((xs.length : Int) < 1) = false ∧ decide (xs.length < 1) = false := ⟨decide_eq_false (by omega), decide_eq_false (by omega)⟩
    obtain ⟨d2, d2n⟩ : decide ((64 : Int) < (xs.length : Int)) = false ∧ decide (64 < xs.length) = false := ⟨decide_eq_false (by omega), decide_eq_false (by omega)⟩
    have d3 : decide (tn < 1) = false := decide_eq_false (by omega)
    have d4 : decide (8 < tn) = false := decide_eq_false (by omega)
    obtain ⟨N, rfl⟩ := Int.eq_ofNat_of_zero_le (show 0 ≤ tn by omega)
    have hA := Lib.hid (And.intro (And.intro a1 a2) (And.intro a3 a4))
    have H := Lib.hid hr
    clear a1 a3 hr hl
    go_enter Try.func11, Try.ntmps11
    go_wp2_with fail
    go_loopw [5] (fun tv wr => ∃ t : Nat, tv = .int .i64 t ∧ wr = w ∧ Hid (t ≤ N) ∧ Hid (∀ t' : Nat, t' < t → ∃ i, Own xs t' i) ∧ Hid (0 < t → ∀ i (h : i < xs.length), ¬ badS xs[i] N)) (fun tv _ => N - (intOf tv).toNat)
    case atStart => exact ⟨0, rfl, rfl, Lib.hid (Nat.zero_le _), Lib.hid (fun _ h => by omega), Lib.hid (fun h => by omega)⟩
    case round =>
      obtain ⟨t, rfl, rfl, ht, hown, hbad⟩ := hrel
      by_cases htN : t < N
      · go_wp2_with fail
        go_loopw [6, 7] (fun hv kv wr2 => ∃ (b : Bool) (k : Nat), hv = .bool b ∧ kv = .int .i64 k ∧ wr2 = wr ∧ Hid (k ≤ xs.length) ∧ Hid (∀ i (h : i < xs.length), i < k → ¬ badS xs[i] N) ∧ Hid (b = true ↔ ∃ i, i < k ∧ Own xs t i)) (fun _ kv _ => xs.length - (intOf kv).toNat)
        case atStart => exact ⟨false, 0, rfl, rfl, rfl, Lib.hid (Nat.zero_le _), Lib.hid (fun _ _ h => by omega), Lib.hid (by constructor <;> intro h; cases h; obtain ⟨i, h, _⟩ := h; omega)⟩
        case round =>
          obtain ⟨b, k, rfl, rfl, rfl, hk, hnb, hb⟩ := hrel
          by_cases hkl : k < xs.length
          · obtain ⟨B, off, rfl, hbs, c0, c1⟩ := H.out.at hkl
            obtain ⟨s, hs⟩ : ∃ s, s = xs[k] := ⟨_, rfl⟩
            rw [← hs] at c0 c1
            have hk5 : decide ((k : Int) < 0) = false := by simp
            have hk4 : (k : Int) < (xs.length : Int) := by omega
            obtain ⟨so, sl⟩ := s
            simp only at c0 c1
            have hno : badS ⟨so, sl⟩ N → R = false := fun h => by rw [hR.out]; exact okR_no (bad_no hkl (by rw [← hs]; exact h))
            replace hno := Lib.hid hno
            by_cases b1 : so < 0
            · have e1 : decide (so < 0) = true := decide_eq_true b1
              have hres := Lib.hid (hno.out (.inl b1))
              clear hb hnb
              go_wp2
              go_ret
              exact ⟨by rw [hres.out]; rfl, rfl⟩
            have e1 : decide (so < 0) = false := decide_eq_false b1
            by_cases b2 : (N : Int) ≤ so
            · have e2 : decide ((N : Int) ≤ so) = true := decide_eq_true b2
              have hres := Lib.hid (hno.out (.inr (.inl b2)))
              clear hb hnb
              go_wp2
              go_ret
              exact ⟨by rw [hres.out]; rfl, rfl⟩
            have e2 : decide ((N : Int) ≤ so) = false := decide_eq_false b2
            by_cases b3 : sl < 1
            · have e3 : decide (sl < 1) = true := decide_eq_true b3
              have hres := Lib.hid (hno.out (.inr (.inr (.inl b3))))
              clear hb hnb
              go_wp2
              go_ret
              exact ⟨by rw [hres.out]; rfl, rfl⟩
            have e3 : decide (sl < 1) = false := decide_eq_false b3
            by_cases b4 : 1000 < sl
            · have e4 : decide (1000 < sl) = true := decide_eq_true b4
              have hres := Lib.hid (hno.out (.inr (.inr (.inr b4))))
              clear hb hnb
              go_wp2
              go_ret
              exact ⟨by rw [hres.out]; rfl, rfl⟩
            have e4 : decide (1000 < sl) = false := decide_eq_false b4
            have hnb2 := Lib.hid (show ∀ i (h : i < xs.length), i < k + 1 → ¬ badS xs[i] N from fun i hi hik => by
              by_cases h : i = k
              · subst h; rw [← hs]; unfold badS; simp only; omega
              · exact hnb.out i hi (by omega))
            have hb2 : Hid ((b || so == (t : Int)) = true ↔ ∃ i, i < k + 1 ∧ Own xs t i) := Lib.hid (by
              rw [Bool.or_eq_true, hb.out, beq_iff_eq]
              constructor
              · rintro (⟨i, h1, h2⟩ | h)
                · exact ⟨i, by omega, h2⟩
                · exact ⟨k, by omega, hkl, by rw [← hs]; exact h⟩
              · rintro ⟨i, h1, h2⟩
                by_cases h : i = k
                · subst h; right; have := h2.2; rw [← hs] at this; exact this
                · exact .inl ⟨i, by omega, h2⟩)
            clear hb hnb b1 b2 b3 b4 hno hs
            cases b with
            | true =>
              rw [Bool.true_or] at hb2
              go_wp2
              go_roundw
              case rel => exact ⟨true, k + 1, rfl, by go_num, by first | trivial | rfl, Lib.hid (by omega), hnb2, hb2⟩
              case measure => simp [intOf]; omega
            | false =>
              rw [Bool.false_or] at hb2
              go_wp2
              go_roundw
              case rel => exact ⟨_, k + 1, rfl, by go_num, by first | trivial | rfl, Lib.hid (by omega), hnb2, hb2⟩
              case measure => simp [intOf]; omega
          · cases b with
            | true =>
              have hown2 := Lib.hid (show ∀ t' : Nat, t' < t + 1 → ∃ i, Own xs t' i from fun t' h => by
                by_cases h2 : t' = t
                · subst h2; obtain ⟨i, _, h⟩ := hb.out.1 rfl; exact ⟨i, h⟩
                · exact hown.out t' (by omega))
              have hbad2 := Lib.hid (show 0 < t + 1 → ∀ i (h : i < xs.length), ¬ badS xs[i] N from fun _ i hi => hnb.out i hi (by omega))
              clear hb hnb hbad hown
              go_wp2
              go_roundw
              case rel => exact ⟨t + 1, by go_num, by first | trivial | rfl, Lib.hid (by omega), hown2, hbad2⟩
              case measure => simp [intOf]; omega
            | false =>
              have hres : Hid (R = false) := Lib.hid (by
                rw [hR.out]
                refine okR_no (fun ok => ?_)
                obtain ⟨i, hi⟩ := ok.has t (by omega) (by omega)
                have := hb.out.2 ⟨i, by have := hi.1; omega, hi⟩
                cases this)
              clear hb hnb hbad hown
              go_wp2
              go_ret
              exact ⟨by rw [hres.out]; rfl, rfl⟩
      · have hres : Hid (R = true) := Lib.hid (by
          rw [hR.out]
          obtain ⟨⟨a1, a2⟩, a3, a4⟩ := hA.out
          refine okR_yes ⟨a1, a2, a3, a4, fun i hi => ?_, fun t' h1 h2 => ?_⟩
          · have := hbad.out (by omega) i hi
            unfold badS at this; omega
          · obtain ⟨n, rfl⟩ := Int.eq_ofNat_of_zero_le h1
            exact hown.out n (by omega))
        clear hbad hown
        go_wp2
        go_ret
        exact ⟨by rw [hres.out]; rfl, rfl⟩
  · have hres : Hid (R = false) := Lib.hid (by rw [hR.out]; exact okR_no (fun h => hg ⟨h.l1, h.l2, h.t1, h.t2⟩))
    have hz : Hid (xs.length ≤ 4611686018427387904) := Lib.hid hl
    obtain ⟨n, hn⟩ : ∃ n, n = xs.length := ⟨_, rfl⟩
    rw [← hn] at hg hz ⊢
    clear hr hn hl
    by_cases h1 : n < 1
    · obtain ⟨d1, d1n⟩ : decide ((n : Int) < 1) = true ∧ decide (n < 1) = true := ⟨decide_eq_true (by omega), decide_eq_true (by omega)⟩
      clear hg h1
      go_enter Try.func11, Try.ntmps11
      go_wp2
      go_ret
      exact ⟨by rw [hres.out]; rfl, rfl⟩
    obtain ⟨d1, d1n⟩ : decide ((n : Int) < 1) = false ∧ decide (n < 1) = false := ⟨decide_eq_false (by omega), decide_eq_false (by omega)⟩
    by_cases h2 : 64 < n
    · obtain ⟨d2, d2n⟩ : decide ((64 : Int) < (n : Int)) = true ∧ decide (64 < n) = true := ⟨decide_eq_true (by omega), decide_eq_true (by omega)⟩
      clear hg h1 h2
      go_enter Try.func11, Try.ntmps11
      go_wp2
      go_ret
      exact ⟨by rw [hres.out]; rfl, rfl⟩
    obtain ⟨d2, d2n⟩ : decide ((64 : Int) < (n : Int)) = false ∧ decide (64 < n) = false := ⟨decide_eq_false (by omega), decide_eq_false (by omega)⟩
    by_cases h3 : tn < 1
    · have d3 : decide (tn < 1) = true := decide_eq_true h3
      clear hg h1 h2 h3
      go_enter Try.func11, Try.ntmps11
      go_wp2
      go_ret
      exact ⟨by rw [hres.out]; rfl, rfl⟩
    have d3 : decide (tn < 1) = false := decide_eq_false h3
    have d4 : decide (8 < tn) = true := decide_eq_true (by omega)
    clear hg h1 h2 h3
    go_enter Try.func11, Try.ntmps11
    go_wp2
    go_ret
    exact ⟨by rw [hres.out]; rfl, rfl⟩
end Go.Proofs.Ytnlbcgonegeofaa
