/- Sets of bits: put and drop whole, size, count, new. -/
import Derived.Test.YtaflekpfpdnbcaaDoorBitS
namespace Go.Proofs.YtaflekpfpdnbcaaDoor
open Go.RowKit
set_option linter.unusedVariables false
set_option linter.unusedSimpArgs false
set_option linter.unusedSectionVars false
set_option maxRecDepth 100000

/-- A set at p, wherever its words are written down. -/
def SetB (w : World) (p g : Nat) (X : List Bool) : Prop := ∃ ws, BitS w p g ws X
theorem SetB.frb {S : Nat → Prop} {w w' : World} {p g : Nat} {X : List Bool} (h : SetB w p g X) (hF : FrB S w w') (hp : ¬ S p) (hg : ¬ S g) : SetB w' p g X := h.imp fun ws h => h.frb hF hp hg
theorem SetB.below {w w' : World} {p g : Nat} {X : List Bool} (h : SetB w p g X) (hF : Below w.heap.size w w') : SetB w' p g X := h.imp fun ws h => h.below hF
theorem SetB.drewN {w : World} {p g : Nat} {X : List Bool} (h : SetB w p g X) (n : Nat) : SetB (w.drewN n) p g X := h.imp fun ws h => h.drewN n
theorem SetB.lt {w : World} {p g : Nat} {X : List Bool} (h : SetB w p g X) : p < w.heap.size ∧ g < w.heap.size ∧ p ≠ g ∧ X.length ≤ 4096 := by
  obtain ⟨ws, h⟩ := h; exact ⟨h.c0.lt, h.gl, h.ne, h.len⟩
theorem has_s {w : World} {p g : Nat} {X : List Bool} (h : SetB w p g X) (k : Int) :
    Calls Tryd.prog 49 #[.pointer (some ⟨p, 0, none⟩), .int .i64 k] w fun e w' => e = .returned (.bool (hasB X k)) ∧ w = w' := by
  obtain ⟨ws, h⟩ := h; exact has_c h k

theorem putB_nat {X : List Bool} {K : Nat} (hk : K < X.length) : putB X (K : Int) = !X[K] := by
  unfold putB; simp [hk]
theorem putB_out {X : List Bool} {K : Nat} (hk : X.length ≤ K) : putB X (K : Int) = false := by
  unfold putB; simp [hk]
theorem putB_neg {X : List Bool} {k : Int} (hk : k < 0) : putB X k = false := by
  unfold putB; simp; intro h; omega

set_option maxHeartbeats 2000000 in
theorem put_s {w : World} {p g : Nat} {X : List Bool} (h : SetB w p g X) (k : Int) :
    Calls Tryd.prog 48 #[.pointer (some ⟨p, 0, none⟩), .int .i64 k] w fun e w' => e = .returned (.bool (putB X k)) ∧ SetB w' p g (putL X k) ∧ FrB (bitS p g) w w' := by
  obtain ⟨ws, h⟩ := h
  have hlen := h.len
  by_cases h0 : 0 ≤ k
  · obtain ⟨K, rfl⟩ := Int.eq_ofNat_of_zero_le h0
    have c0 := h.c0.1; have c1 := h.c1.1
    have d0 : decide ((K : Int) < 0) = false := by simp
    by_cases hk : K < X.length
    · cases hx : X[K] with
      | false =>
        have hb : putB X (K : Int) = true := by rw [putB_nat hk, hx]; rfl
        have hl : putL X (K : Int) = X.set K true := by unfold putL; rw [hb]; rfl
        rw [hl, hb]
        exact put_yes h hk hx
      | true =>
        have hb : putB X (K : Int) = false := by rw [putB_nat hk, hx]; rfl
        have hl : putL X (K : Int) = X := by unfold putL; rw [hb]; rfl
        have hh := Lib.hid (show hasB X (K : Int) = true by rw [hasB_nat hk, hx])
        have d2 : decide ((X.length : Int) ≤ (K : Int)) = false := by simp; omega
        have d2' : decide (X.length ≤ K) = false := by simp; omega
        rw [hl, hb]
        have H := Lib.hid h
        clear h hx hl hb
        go_enter Tryd.func48, Tryd.ntmps48
        go_wp2_with fail
        refine (has_c H.out K).mono ?_
        rintro e w1 ⟨rfl, rfl⟩
        rw [hh.out]
        go_wp2
        go_ret
        exact ⟨rfl, ⟨_, H.out⟩, FrB.refl _ _⟩
    · have hb := putB_out (X := X) (K := K) (by omega)
      have hl : putL X (K : Int) = X := by unfold putL; rw [hb]; rfl
      have d2 : decide ((X.length : Int) ≤ (K : Int)) = true := by simp; omega
      have d2' : decide (X.length ≤ K) = true := by simp; omega
      rw [hl, hb]
      have H := Lib.hid h
      clear h hl hb
      go_enter Tryd.func48, Tryd.ntmps48
      go_wp2
      go_ret
      exact ⟨rfl, ⟨_, H.out⟩, FrB.refl _ _⟩
  · have hb := putB_neg (X := X) (k := k) (by omega)
    have hl : putL X k = X := by unfold putL; rw [hb]; rfl
    have d0 : decide (k < 0) = true := by simp; omega
    have hk0 : k < 0 := by omega
    rw [hl, hb]
    have H := Lib.hid h
    clear h hl hb h0
    go_enter Tryd.func48, Tryd.ntmps48
    go_wp2
    go_ret
    exact ⟨rfl, ⟨_, H.out⟩, FrB.refl _ _⟩

theorem ofInt_bit (x i : Nat) (hi : i < 64) : (BitVec.ofInt 64 (x : Int)).getLsbD i = x.testBit i := by
  rw [BitVec.ofInt_natCast, BitVec.getLsbD_ofNat]; simp [hi]
theorem andNot_bit (x j : Nat) (hx : x < 18446744073709551616) (hj : j < 64) : ∃ y : Nat, bits .andNot .u64 (x : Int) ((2 : Int) ^ j) = (y : Int) ∧ y < 18446744073709551616 ∧ ∀ i, i < 64 → y.testBit i = if i = j then false else x.testBit i := by
  have e : ((2 : Int) ^ j) = ((2 ^ j : Nat) : Int) := by simp
  refine ⟨(BitVec.ofInt 64 (x : Int) &&& ~~~ BitVec.ofInt 64 ((2 : Int) ^ j)).toNat, ?_, BitVec.isLt _, fun i hi => ?_⟩
  · show IntKind.u64.wrap ((BitVec.ofInt 64 (x : Int) &&& ~~~ BitVec.ofInt 64 ((2 : Int) ^ j)).toNat : Int) = _
    rw [IntKind.wrap_u64]
    have := (BitVec.ofInt 64 (x : Int) &&& ~~~ BitVec.ofInt 64 ((2 : Int) ^ j)).isLt
    omega
  · rw [BitVec.testBit_toNat, BitVec.getLsbD_and, BitVec.getLsbD_not, e, ofInt_bit x i hi, ofInt_bit (2 ^ j) i hi, Nat.testBit_two_pow]
    by_cases h : i = j
    · subst h; simp
    · rw [if_neg h]; simp [hi, show ¬ j = i from fun e => h e.symm]

set_option maxHeartbeats 2000000 in
theorem drop_yes {w : World} {p g : Nat} {ws : List Nat} {X : List Bool} (h : BitS w p g ws X) {K : Nat} (hk : K < X.length) (hx : X[K] = true) :
    Calls Tryd.prog 51 #[.pointer (some ⟨p, 0, none⟩), .int .i64 K] w fun e w' => e = .returned (.bool true) ∧ (∃ ws', BitS w' p g ws' (X.set K false)) ∧ FrB (bitS p g) w w' := by
  have hlen := h.len
  have c0 := h.c0.1; have c1 := h.c1.1; have c2 := h.c2.1
  have hw := h.inv.wlt hk
  have hc := (h.wd _ hw).1
  have hcnt := count_set hk false
  rw [hx] at hcnt
  simp at hcnt
  have hcl := count_le X
  have hwx := h.inv.lt _ (List.getElem_mem hw)
  obtain ⟨y, hy, hyl, hyb⟩ := andNot_bit (ws[K / 64]) (K % 64) hwx (Nat.mod_lt _ (by decide))
  have hh := Lib.hid (show hasB X (K : Int) = true by rw [hasB_nat hk, hx])
  have hX := Lib.hid (show ∀ w' : World, BitS w' p g ws X → BitS ((w'.setCell ⟨g, K / 64, none⟩ (.int .u64 y)).setCell ⟨p, 2, none⟩ (.int .i64 ((X.count true : Int) - 1))) p g (ws.set (K / 64) y) (X.set K false) from fun w' h' => by have := h'.set hk y false hyl hyb; rw [show ((List.count true (X.set K false) : Nat) : Int) = (X.count true : Int) - 1 by omega] at this; exact this)
  have hwc := Lib.hid (show ∀ w' : World, BitS w' p g ws X → Cel w' g (K / 64) (.int .u64 (ws[K / 64] : Nat)) from fun w' h' => h'.wd _ hw)
  obtain ⟨v, hv⟩ : ∃ v, v = ws[K / 64] := ⟨_, rfl⟩
  rw [← hv] at hc hy hwx hwc
  obtain ⟨q, hq⟩ : ∃ q, q = K / 64 := ⟨_, rfl⟩
  obtain ⟨r, hr⟩ : ∃ r, r = K % 64 := ⟨_, rfl⟩
  have hr64 : r < 64 := by omega
  have eq1 : (K : Int) / 64 = (q : Int) := by omega
  have eq2 : (K : Int) % 64 = (r : Int) := by omega
  have eq3 : IntKind.i64.wrap (q : Int) = (q : Int) := by rw [IntKind.wrap_i64]; omega
  have eq4 : IntKind.i64.wrap (r : Int) = (r : Int) := by rw [IntKind.wrap_i64]; omega
  have eq5 : Int.tmod (K : Int) 64 = (r : Int) := by rw [Int.tmod_eq_emod_of_nonneg (by omega)]; omega
  have hr65 : (r : Int) ≤ 64 := by omega
  have eq6 : IntKind.u64.wrap ((2 : Int) ^ r) = (2 : Int) ^ r := wrap_pow hr64
  rw [← hq] at hc hw hX hwc
  rw [← hr] at hy
  have hc1 := Lib.hid (show 1 ≤ X.count true by omega)
  replace h := Lib.hid h; replace hcl := Lib.hid hcl; replace hcnt := Lib.hid hcnt
  clear hyb hv hq hr hx
  go_enter Tryd.func51, Tryd.ntmps51
  go_wp2_with fail
  refine (has_c h.out K).mono ?_
  rintro e w1 ⟨rfl, rfl⟩
  rw [hh.out]
  go_wp2
  refine wp_region_still_tail 13 (by kernel_rfl) (by kernel_rfl) ?_
  simp only [World.drew_eq, List.take_succ_cons, List.take_zero, List.drop_succ_cons, List.drop_zero]
  repeat still_step
  refine wpStill_nil ?_
  change wpList _ _ _ _ _ _
  have H1 := Lib.hid (show BitS w.drew p g ws X from h.out.drewN 1)
  have F1 := Lib.hid (((FrB.refl (bitS p g) w)).then_ (FrB.drewF w) (fun _ _ h => h))
  clear c0 c1 c2 hc h
  generalize w.drew = w1 at *
  have c0 := H1.out.c0.1; have c2 := H1.out.c2.1; have c2f := H1.out.c2.2
  have hc := (hwc.out _ H1.out)
  have hcf := hc.2
  replace hc := hc.1
  have hpg := H1.out.ne
  have hgp : g ≠ p := fun e => hpg e.symm
  obtain ⟨n, hn⟩ : ∃ n, n = X.count true := ⟨_, rfl⟩
  rw [← hn] at c2 hX
  have hwn : wrap64 ((n : Int) - 1) = (n : Int) - 1 := by have := hcl.out; have := hc1.out; unfold wrap64; omega
  replace hn := Lib.hid hn
  go_wp2
  go_ret
  exact ⟨rfl, ⟨_, hX.out _ H1.out⟩, (F1.out.then_ (FrB.set w1 ⟨g, q, none⟩ (.int .u64 y)) (fun k _ e => .inr e)).then_ (FrB.set _ ⟨p, 2, none⟩ _) (fun k _ e => .inl e)⟩

set_option maxHeartbeats 2000000 in
theorem drop_s {w : World} {p g : Nat} {X : List Bool} (h : SetB w p g X) (k : Int) :
    Calls Tryd.prog 51 #[.pointer (some ⟨p, 0, none⟩), .int .i64 k] w fun e w' => e = .returned (.bool (hasB X k)) ∧ SetB w' p g (dropL X k) ∧ FrB (bitS p g) w w' := by
  obtain ⟨ws, h⟩ := h
  cases hb : hasB X k with
  | true =>
    have h0 : 0 ≤ k := by
      by_cases h0 : 0 ≤ k
      · exact h0
      · rw [hasB_neg (by omega)] at hb; cases hb
    obtain ⟨K, rfl⟩ := Int.eq_ofNat_of_zero_le h0
    have hk : K < X.length := by
      by_cases hk : K < X.length
      · exact hk
      · rw [hasB_out (by omega)] at hb; cases hb
    have hl : dropL X (K : Int) = X.set K false := by unfold dropL; rw [hb]; rfl
    rw [hl]
    exact drop_yes h hk (by rw [← hasB_nat hk]; exact hb)
  | false =>
    have hl : dropL X k = X := by unfold dropL; rw [hb]; rfl
    have hh := Lib.hid hb
    have H := Lib.hid h
    rw [hl]
    clear h hl hb
    go_enter Tryd.func51, Tryd.ntmps51
    go_wp2_with fail
    refine (has_c H.out k).mono ?_
    rintro e w1 ⟨rfl, rfl⟩
    rw [hh.out]
    go_wp2
    go_ret
    exact ⟨rfl, ⟨_, H.out⟩, FrB.refl _ _⟩

theorem count_s {w : World} {p g : Nat} {X : List Bool} (h : SetB w p g X) :
    Calls Tryd.prog 52 #[.pointer (some ⟨p, 0, none⟩)] w fun e w' => e = .returned (.int .i64 (X.count true)) ∧ w = w' := by
  obtain ⟨ws, h⟩ := h
  have c1 := h.c2.1
  replace h := Lib.hid h
  go_enter Tryd.func52, Tryd.ntmps52
  go_wp2
  go_ret
  exact ⟨rfl, rfl⟩

/-- For how many there is room. -/
def capB (a : Int) : Nat := (max 0 (min a 4096)).toNat
theorem info48 : (Tryd.prog.info? 23).map (fun i => (i.zero, i.size, i.bytes)) = some (some (.int .u64 0), 1, 8) := by kernel_rfl
set_option maxHeartbeats 2000000 in
theorem new_s (w : World) (a : Int) :
    Calls Tryd.prog 37 #[.int .i64 a] w fun e w' => ∃ p g, e = .returned (.pointer (some ⟨p, 0, none⟩)) ∧ SetB w' p g (List.replicate (capB a) false) ∧ w.heap.size ≤ p ∧ w.heap.size ≤ g ∧ Below w.heap.size w w' := by
  obtain ⟨n, hn⟩ : ∃ n, n = capB a := ⟨_, rfl⟩
  have hn4 : n ≤ 4096 := by rw [hn]; unfold capB; omega
  have hn' : (if 0 < (if 4096 < a then 4096 else a) then (if 4096 < a then 4096 else a) else 0) = (n : Int) := by rw [hn]; unfold capB; split <;> split <;> omega
  obtain ⟨m, hm⟩ : ∃ m, m = (n + 63) / 64 := ⟨_, rfl⟩
  have e1 : ((n : Int) + 63) / 64 = (m : Int) := by omega
  have e2 : wrap64 ((n : Int) + 63) = (n : Int) + 63 := by unfold wrap64; omega
  have e3 : IntKind.i64.wrap (m : Int) = (m : Int) := by rw [IntKind.wrap_i64]; omega
  obtain ⟨Z, s1, z1, k1⟩ := make_eq (t := 28) Tryd.underlying28 info48 rfl rfl .i64 .i64 m (by omega) (by omega)
  rw [← hn]
  replace hn := Lib.hid hn; replace hm := Lib.hid hm; replace z1 := Lib.hid z1; replace s1 := Lib.hid s1
  go_enter Tryd.func37, Tryd.ntmps37
  have B1 := Below.alloc (Below.refl w.heap.size w) (Nat.le_refl _) (.cells Z 23)
  have B2 := Lib.hid (Below.alloc B1 B1.size (.cells #[.slice (some ⟨w.heap.size, 0, none⟩) m m, .int .i64 n, .int .i64 0] 109))
  have S := Lib.hid (show SetB ((w.alloc (.cells Z 23)).alloc (.cells #[.slice (some ⟨w.heap.size, 0, none⟩) m m, .int .i64 n, .int .i64 0] 109)) (w.heap.size + 1) w.heap.size (List.replicate n false) from by
    have hz : ∀ i, i < m → Z[i]? = some (.int .u64 0) := fun i hi => by
      have := z1.out i 0 hi (by decide)
      rw [Nat.mul_one, Nat.add_zero] at this
      exact this
    have hbs : BW (List.replicate m 0) (List.replicate n false) := by rw [hm.out]; exact BW.new n
    have hp : (w.alloc (.cells Z 23)).heap.size = w.heap.size + 1 := by simp
    have hcel : ∀ i v, (#[.slice (some ⟨w.heap.size, 0, none⟩) m m, .int .i64 n, .int .i64 0] : Array Value)[i]? = some v → Cel ((w.alloc (.cells Z 23)).alloc (.cells #[.slice (some ⟨w.heap.size, 0, none⟩) m m, .int .i64 n, .int .i64 0] 109)) (w.heap.size + 1) i v := fun i v hv => by
      have := Cel.new (w.alloc (.cells Z 23)) #[.slice (some ⟨w.heap.size, 0, none⟩) m m, .int .i64 n, .int .i64 0] 109 i v hv
      rw [hp] at this; exact this
    exact ⟨List.replicate m 0, by rw [List.length_replicate]; exact hcel 0 _ rfl, by rw [List.length_replicate]; exact hcel 1 _ rfl, by rw [show (List.replicate n false).count true = 0 by rw [List.count_replicate]; rfl]; exact hcel 2 _ rfl,
      fun i hi => by rw [List.getElem_replicate]; rw [List.length_replicate] at hi; exact (Cel.new w Z 23 i _ (hz i hi)).alloc _, by simp; omega, by omega, hbs, by rw [List.length_replicate]; exact hn4⟩)
  go_wp2
  all_goals go_ret
  all_goals first
    | exact ⟨_, rfl, w.heap.size, S.out, Nat.le_succ _, Nat.le_refl _, B2.out⟩
    | exact ⟨_, w.heap.size, rfl, S.out, Nat.le_succ _, Nat.le_refl _, B2.out⟩
end Go.Proofs.YtaflekpfpdnbcaaDoor
