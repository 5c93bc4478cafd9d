/- Sets of bits in memory, and the contracts of what is done with them. -/
import Derived.Test.YtaflekpfpdnbcaaDoorBitP
import Derived.Test.YtaflekpfpdnbcaaDoorOwnE
import Derived.Test.YtaflekpfpdnbcaaDoorMake
import Derived.Deep.QuietTactic
import Derived.Lib.Hide
import Derived.BigRegion
import Derived.StillTailTactics
namespace Go.Proofs.YtaflekpfpdnbcaaDoor
open Go.RowKit
set_option linter.unusedVariables false
set_option linter.unusedSimpArgs false
set_option linter.unusedSectionVars false
set_option maxRecDepth 100000

/-- A set at p, its words ws in block g. -/
structure BitS (w : World) (p g : Nat) (ws : List Nat) (X : List Bool) : Prop where
  c0 : Cel w p 0 (.slice (some ⟨g, 0, none⟩) ws.length ws.length)
  c1 : Cel w p 1 (.int .i64 X.length)
  c2 : Cel w p 2 (.int .i64 (X.count true))
  wd : ∀ i (h : i < ws.length), Cel w g i (.int .u64 (ws[i] : Nat))
  gl : g < w.heap.size
  ne : p ≠ g
  inv : BW ws X
  len : X.length ≤ 4096
def bitS (p g : Nat) : Nat → Prop := fun k => k = p ∨ k = g
theorem BitS.frb {S : Nat → Prop} {w w' : World} {p g : Nat} {ws : List Nat} {X : List Bool} (h : BitS w p g ws X) (hF : FrB S w w') (hp : ¬ S p) (hg : ¬ S g) : BitS w' p g ws X :=
  ⟨h.c0.frb hF hp, h.c1.frb hF hp, h.c2.frb hF hp, fun i hi => (h.wd i hi).frb hF hg, Nat.lt_of_lt_of_le h.gl hF.size, h.ne, h.inv, h.len⟩
theorem BitS.below {w w' : World} {p g : Nat} {ws : List Nat} {X : List Bool} (h : BitS w p g ws X) (hF : Below w.heap.size w w') : BitS w' p g ws X :=
  h.frb (FrB.of_below (S := fun _ => False) hF (Nat.le_refl _)) (fun h => h) (fun h => h)
theorem BitS.drewN {w : World} {p g : Nat} {ws : List Nat} {X : List Bool} (h : BitS w p g ws X) (n : Nat) : BitS (w.drewN n) p g ws X := ⟨h.c0, h.c1, h.c2, h.wd, h.gl, h.ne, h.inv, h.len⟩

theorem BitS.set {w : World} {p g : Nat} {ws : List Nat} {X : List Bool} (h : BitS w p g ws X) {K : Nat} (hk : K < X.length) (y : Nat) (b : Bool) (hy : y < 18446744073709551616)
    (hb : ∀ j, j < 64 → y.testBit j = if j = K % 64 then b else (ws[K / 64]'(h.inv.wlt hk)).testBit j) :
    BitS ((w.setCell ⟨g, K / 64, none⟩ (.int .u64 y)).setCell ⟨p, 2, none⟩ (.int .i64 ((X.set K b).count true))) p g (ws.set (K / 64) y) (X.set K b) := by
  have hgp : g ≠ p := fun e => h.ne e.symm
  refine ⟨?_, ?_, (h.c2.other (.inl hgp) _).same _, fun i hi => ?_, by simpa using h.gl, h.ne, h.inv.setWord hk y b hy hb, by rw [List.length_set]; exact h.len⟩
  · rw [List.length_set]; exact (h.c0.other (.inl hgp) _).other (.inr (by decide)) _
  · rw [List.length_set]; exact (h.c1.other (.inl hgp) _).other (.inr (by decide)) _
  · rw [List.length_set] at hi
    by_cases he : i = K / 64
    · subst he
      rw [List.getElem_set_self]
      exact ((h.wd _ hi).same _).other (.inl h.ne) _
    · rw [List.getElem_set_ne (fun e => he e.symm)]
      exact ((h.wd i hi).other (.inr (fun e => he e.symm)) _).other (.inl h.ne) _

theorem FrB.drewF {S : Nat → Prop} (w : World) : FrB S w w.drew := ⟨rfl, rfl, rfl, Nat.le_refl _, fun _ _ _ => rfl⟩
theorem test_bit (x j : Nat) (hx : x < 18446744073709551616) : (bits .and .u64 ((x : Int) / 2 ^ j) 1 == 1) = x.testBit j := by
  have e : ((x : Int) / 2 ^ j) = ((x / 2 ^ j : Nat) : Int) := by simp
  have hl : x / 2 ^ j ≤ x := Nat.div_le_self _ _
  have h := bits_and_u64_nat (x / 2 ^ j) 1 (by omega) (by decide)
  rw [Nat.and_one_is_mod] at h
  rw [e, show bits BinOp.and IntKind.u64 ((x / 2 ^ j : Nat) : Int) 1 = _ from h, Nat.testBit_eq_decide_div_mod_eq]
  have : x / 2 ^ j % 2 < 2 := Nat.mod_lt _ (by decide)
  by_cases h1 : x / 2 ^ j % 2 = 1
  · rw [h1]; rfl
  · rw [show x / 2 ^ j % 2 = 0 by omega]; rfl
theorem hasB_nat {X : List Bool} {K : Nat} (hk : K < X.length) : hasB X (K : Int) = X[K] := by
  unfold hasB; simp [hk]
theorem hasB_out {X : List Bool} {K : Nat} (hk : X.length ≤ K) : hasB X (K : Int) = false := by
  unfold hasB; simp [hk]
theorem hasB_neg {X : List Bool} {k : Int} (hk : k < 0) : hasB X k = false := by
  unfold hasB; simp; intro h; omega

set_option maxHeartbeats 1000000 in
theorem has_c {w : World} {p g : Nat} {ws : List Nat} {X : List Bool} (h : BitS w p g ws X) (k : Int) :
    Calls Tryd.prog 49 #[.pointer (some ⟨p, 0, none⟩), .int .i64 k] w fun e w' => e = .returned (.bool (hasB X k)) ∧ w = w' := by
  have hlen := h.len
  by_cases h0 : 0 ≤ k
  · obtain ⟨K, rfl⟩ := Int.eq_ofNat_of_zero_le h0
    have c0 := h.c0.1; have c1 := h.c1.1
    by_cases hk : K < X.length
    · have hw := h.inv.wlt hk
      have hc := (h.wd _ hw).1
      have hb := h.inv.at hk
      have hx := test_bit (ws[K / 64]) (K % 64) (h.inv.lt _ (List.getElem_mem _))
      rw [hb, ← hasB_nat hk] at hx
      have d1 : decide ((K : Int) < (X.length : Int)) = true := by simp; omega
      have d0 : decide ((0 : Int) ≤ (K : Int)) = true := by simp
      replace h := Lib.hid h
      clear hb
      go_enter Tryd.func49, Tryd.ntmps49
      go_wp2
      go_ret
      exact ⟨rfl, rfl⟩
    · have d1 : decide ((K : Int) < (X.length : Int)) = false := by simp; omega
      have d0 : decide ((0 : Int) ≤ (K : Int)) = true := by simp
      have hr := Lib.hid (hasB_out (X := X) (K := K) (by omega))
      replace h := Lib.hid h
      go_enter Tryd.func49, Tryd.ntmps49
      go_wp2
      go_ret
      exact ⟨by rw [hr.out]; rfl, rfl⟩
  · have d0 : decide ((0 : Int) ≤ k) = false := by simp; omega
    have hr := Lib.hid (hasB_neg (X := X) (k := k) (by omega))
    replace h := Lib.hid h
    go_enter Tryd.func49, Tryd.ntmps49
    go_wp2
    go_ret
    exact ⟨by rw [hr.out]; rfl, rfl⟩

theorem wrap_pow {r : Nat} (h : r < 64) : IntKind.u64.wrap ((2 : Int) ^ r) = (2 : Int) ^ r := by
  have h2 : 2 ^ r < 18446744073709551616 := Nat.lt_of_lt_of_le (Nat.pow_lt_pow_right (by decide) h) (by decide)
  have e : ((2 : Int) ^ r) = ((2 ^ r : Nat) : Int) := by simp
  rw [e, IntKind.wrap_u64]
  generalize (2 ^ r : Nat) = z at *
  omega
theorem or_bit (x j : Nat) (hx : x < 18446744073709551616) (hj : j < 64) : ∃ y : Nat, bits .or .u64 (x : Int) ((2 : Int) ^ j) = (y : Int) ∧ y < 18446744073709551616 ∧ ∀ i, i < 64 → y.testBit i = if i = j then true else x.testBit i := by
  have h2 : 2 ^ j < 18446744073709551616 := Nat.lt_of_lt_of_le (Nat.pow_lt_pow_right (by decide) hj) (by decide)
  refine ⟨x ||| 2 ^ j, ?_, Nat.or_lt_two_pow (n := 64) hx h2, fun i hi => ?_⟩
  · rw [← bits_or_u64_nat x (2 ^ j) hx h2]; simp
  · rw [Nat.testBit_or, Nat.testBit_two_pow]
    by_cases h : i = j
    · subst h; simp
    · rw [if_neg h]; simp [show ¬ j = i from fun e => h e.symm]

set_option maxHeartbeats 2000000 in
theorem put_yes {w : World} {p g : Nat} {ws : List Nat} {X : List Bool} (h : BitS w p g ws X) {K : Nat} (hk : K < X.length) (hx : X[K] = false) :
    Calls Tryd.prog 48 #[.pointer (some ⟨p, 0, none⟩), .int .i64 K] w fun e w' => e = .returned (.bool true) ∧ (∃ ws', BitS w' p g ws' (X.set K true)) ∧ FrB (bitS p g) w w' := by
  have hlen := h.len
  have c0 := h.c0.1; have c1 := h.c1.1; have c2 := h.c2.1
  have hw := h.inv.wlt hk
  have hc := (h.wd _ hw).1
  have hcnt := count_set hk true
  rw [hx] at hcnt
  simp at hcnt
  have hcl := count_le X
  have hwx := h.inv.lt _ (List.getElem_mem hw)
  obtain ⟨y, hy, hyl, hyb⟩ := or_bit (ws[K / 64]) (K % 64) hwx (Nat.mod_lt _ (by decide))
  have d1 : decide ((K : Int) < (X.length : Int)) = true := by simp; omega
  have d2 : decide ((X.length : Int) ≤ (K : Int)) = false := by simp; omega
  have d0 : decide ((K : Int) < 0) = false := by simp
  have hh := Lib.hid (show hasB X (K : Int) = false by rw [hasB_nat hk, hx])
  have hX := Lib.hid (show ∀ w' : World, BitS w' p g ws X → BitS ((w'.setCell ⟨g, K / 64, none⟩ (.int .u64 y)).setCell ⟨p, 2, none⟩ (.int .i64 ((X.count true : Int) + 1))) p g (ws.set (K / 64) y) (X.set K true) from fun w' h' => by have := h'.set hk y true hyl hyb; rw [hcnt] at this; exact this)
  have hwc := Lib.hid (show ∀ w' : World, BitS w' p g ws X → Cel w' g (K / 64) (.int .u64 (ws[K / 64] : Nat)) from fun w' h' => h'.wd _ hw)
  obtain ⟨v, hv⟩ : ∃ v, v = ws[K / 64] := ⟨_, rfl⟩
  rw [← hv] at hc hy hwx hwc
  obtain ⟨q, hq⟩ : ∃ q, q = K / 64 := ⟨_, rfl⟩
  obtain ⟨r, hr⟩ : ∃ r, r = K % 64 := ⟨_, rfl⟩
  have hr64 : r < 64 := by omega
  have eq1 : (K : Int) / 64 = (q : Int) := by omega
  have eq2 : (K : Int) % 64 = (r : Int) := by omega
  have eq3 : IntKind.i64.wrap (q : Int) = (q : Int) := by rw [IntKind.wrap_i64]; omega
  have eq4 : IntKind.i64.wrap (r : Int) = (r : Int) := by rw [IntKind.wrap_i64]; omega
  have eq5 : Int.tmod (K : Int) 64 = (r : Int) := by rw [Int.tmod_eq_emod_of_nonneg (by omega)]; omega
  have hr65 : (r : Int) ≤ 64 := by omega
  have eq6 : IntKind.u64.wrap ((2 : Int) ^ r) = (2 : Int) ^ r := wrap_pow hr64
  rw [← hq] at hc hw hX hwc
  rw [← hr] at hy
  replace h := Lib.hid h; replace hcl := Lib.hid hcl; replace hcnt := Lib.hid hcnt
  clear hyb hv hq hr hx
  go_enter Tryd.func48, Tryd.ntmps48
  go_wp2_with fail
  refine (has_c h.out K).mono ?_
  rintro e w1 ⟨rfl, rfl⟩
  rw [hh.out]
  go_wp2
  refine wp_region_still_tail 13 (by kernel_rfl) (by kernel_rfl) ?_
  simp only [World.drew_eq, List.take_succ_cons, List.take_zero, List.drop_succ_cons, List.drop_zero]
  repeat still_step
  refine wpStill_nil ?_
  change wpList _ _ _ _ _ _
  have H1 := Lib.hid (show BitS w.drew p g ws X from h.out.drewN 1)
  have F1 := Lib.hid (((FrB.refl (bitS p g) w)).then_ (FrB.drewF w) (fun _ _ h => h))
  clear c0 c1 c2 hc h
  generalize w.drew = w1 at *
  have c0 := H1.out.c0.1; have c2 := H1.out.c2.1; have c2f := H1.out.c2.2
  have hc := (hwc.out _ H1.out)
  have hcf := hc.2
  replace hc := hc.1
  have hpg := H1.out.ne
  have hgp : g ≠ p := fun e => hpg e.symm
  obtain ⟨n, hn⟩ : ∃ n, n = X.count true := ⟨_, rfl⟩
  rw [← hn] at c2 hX
  have hwn : wrap64 ((n : Int) + 1) = (n : Int) + 1 := by have := hcl.out; unfold wrap64; omega
  replace hn := Lib.hid hn
  go_wp2
  go_ret
  exact ⟨rfl, ⟨_, hX.out _ H1.out⟩, (F1.out.then_ (FrB.set w1 ⟨g, q, none⟩ (.int .u64 y)) (fun k _ e => .inr e)).then_ (FrB.set _ ⟨p, 2, none⟩ _) (fun k _ e => .inl e)⟩
end Go.Proofs.YtaflekpfpdnbcaaDoor
