/- CapsRights. -/
import Derived.Test.YtaflekpfpdnbcaaDoorBi5
namespace Go.Proofs.YtaflekpfpdnbcaaDoor
open Go.RowKit
set_option linter.unusedVariables false
set_option linter.unusedSimpArgs false
set_option linter.unusedSectionVars false
set_option maxRecDepth 100000

theorem bv_sub (x y : BitVec 64) : (x &&& ~~~y = 0#64) ↔ (y &&& x = x) := by
  constructor
  · intro h
    apply BitVec.eq_of_getLsbD_eq
    intro i hi
    have h1 := congrArg (fun v => v.getLsbD i) h
    simp only [BitVec.getLsbD_and, BitVec.getLsbD_not, BitVec.getLsbD_zero, hi, decide_true, Bool.true_and] at h1 ⊢
    revert h1
    cases x.getLsbD i <;> cases y.getLsbD i <;> simp
  · intro h
    apply BitVec.eq_of_getLsbD_eq
    intro i hi
    have h1 := congrArg (fun v => v.getLsbD i) h
    simp only [BitVec.getLsbD_and, BitVec.getLsbD_not, BitVec.getLsbD_zero, hi, decide_true, Bool.true_and] at h1 ⊢
    revert h1
    cases x.getLsbD i <;> cases y.getLsbD i <;> simp
theorem sub_iff {r R : Int} (hr : -9223372036854775808 ≤ r ∧ r < 9223372036854775808) : bits .andNot .i64 r R = 0 ↔ bits .and .i64 R r = r := by
  rw [andNot_bv, and_bv]
  have h0 : ((bv r &&& ~~~ bv R).toInt = 0) ↔ (bv r &&& ~~~ bv R = 0#64) := by
    constructor
    · intro h
      apply BitVec.eq_of_toInt_eq
      rw [h]; rfl
    · intro h; rw [h]; rfl
  have h1 : ((bv R &&& bv r).toInt = r) ↔ (bv R &&& bv r = bv r) := by
    constructor
    · intro h
      apply BitVec.eq_of_toInt_eq
      rw [h, toInt_bv hr]
    · intro h; rw [h, toInt_bv hr]
  rw [h0, h1]
  exact bv_sub _ _

set_option maxHeartbeats 8000000 in
theorem rights5_walk (kind index a2 a3 a4 : Int) (hwf : (Lit.int .i64 kind).wf = true) (w : World) (hT : Tab w) :
    Calls Tryd.prog 5 #[.int .i64 kind, .int .i64 index, .int .i64 a2, .int .i64 a3, .int .i64 a4] w fun e w' => e = .returned (.bool true) ∧ Below w.heap.size w w' := by
  obtain ⟨R, e0, hR⟩ := mask_nat 8 255 (by decide) (by decide) a2
  obtain ⟨A, e1, hA⟩ := mask_nat 8 255 (by decide) (by decide) a3
  obtain ⟨B, e2, hB⟩ := mask_nat 8 255 (by decide) (by decide) a4
  replace hR : R < 256 := hR
  replace hA : A < 256 := hA
  replace hB : B < 256 := hB
  have hk1 : IntKind.i64.min ≤ kind ∧ kind ≤ IntKind.i64.max := by simpa [Lit.wf] using hwf
  rw [show IntKind.i64.min = -9223372036854775808 by decide, show IntKind.i64.max = 9223372036854775807 by decide] at hk1
  have hkw : kind ≠ wrap64 (kind + 1) := by unfold wrap64; omega
  have al := Lib.hid (alive05_c w hT)
  have HT := Lib.hid hT
  obtain ⟨xs, hxs⟩ : ∃ xs : List Int, xs = [(A : Int), (B : Int), bits .or .i64 A B, bits .and .i64 A B, 0, (R : Int)] := ⟨_, rfl⟩
  have hxl : xs.length = 6 := by rw [hxs]; rfl
  have hxr : ∀ x ∈ xs, -9223372036854775808 ≤ x ∧ x < 9223372036854775808 := by
    intro x hx
    rw [hxs] at hx
    simp only [List.mem_cons, List.mem_nil_iff, or_false] at hx
    rcases hx with rfl | rfl | rfl | rfl | rfl | rfl
    · omega
    · omega
    · exact bits_range _ _ _ (.inr (.inl rfl))
    · exact bits_range _ _ _ (.inl rfl)
    · omega
    · omega
  replace hxr := Lib.hid hxr; replace hxl := Lib.hid hxl; replace hkw := Lib.hid hkw
  clear hT hwf hk1
  go_enter Tryd.func5, Tryd.ntmps5
  go_wp2_with fail
  refine al.out.mono ?_
  rintro e w1 ⟨rfl, F⟩
  have tb := Lib.hid (table_c (HT.out.below F) 1 5)
  replace F := Lib.hid F
  go_wp2_with fail
  refine tb.out.mono ?_
  rintro e w2 ⟨T, rfl, H⟩
  replace H : TabW w1 w2 T [Pc.new] 5 := H
  have m1 := H.mint kind index R
  rw [show nextB (xP 5 [Pc.new]) false 0 = some 0 from next1 false, show ((R : Int) % 256).toNat = R by omega] at m1
  obtain ⟨h, hh⟩ : ∃ h : Nat, h = 16777216 + R := ⟨_, rfl⟩
  replace m1 : Calls Tryd.prog 11 #[.pointer (some ⟨T.t, 0, none⟩), .agg #[.int .i64 kind, .int .i64 index, .int .i64 R]] w2 fun e w' => e = .returned (.tuple #[.int .u64 ((1 * 16777216 + 0 * 256 + R : Nat) : Int), .int .i64 0]) ∧ TabW w1 w' T [⟨1, true, kind, index, R⟩] 5 ∧ FrC T.F w2 w' := m1
  rw [show 1 * 16777216 + 0 * 256 + R = h by omega] at m1
  have hfd : findP [⟨1, true, kind, index, R⟩] h = some 0 := by
    have q1 : h / 256 % 65536 = 0 := by omega
    have q2 : h / 16777216 = 1 := by omega
    have q3 : h % 256 = R := by omega
    unfold findP
    simp [q1, q2, q3]
  have hh64 : h < 18446744073709551616 := by omega
  replace m1 := Lib.hid m1
  replace hfd := Lib.hid hfd
  replace hh64 := Lib.hid hh64
  replace hh := Lib.hid hh
  clear H tb
  go_wp2_with fail
  refine m1.out.mono ?_
  rintro e w3 ⟨rfl, H, -⟩
  clear m1
  have H0 := Lib.hid (H.alloc (.cells #[.int .i64 A, .int .i64 B, .int .i64 (bits .or .i64 A B), .int .i64 (bits .and .i64 A B), .int .i64 0, .int .i64 R] 3))
  have RW := Lib.hid (row_new w3 #[.int .i64 A, .int .i64 B, .int .i64 (bits .or .i64 A B), .int .i64 (bits .and .i64 A B), .int .i64 0, .int .i64 R] 3 xs (by rw [hxs]; rfl))
  replace hxs := Lib.hid hxs
  clear H
  go_wp2_with fail
  generalize w3.alloc (.cells #[.int .i64 A, .int .i64 B, .int .i64 (bits .or .i64 A B), .int .i64 (bits .and .i64 A B), .int .i64 0, .int .i64 R] 3) = w4 at *
  generalize w3.heap.size = Z at *
  go_loopw [51] (fun ii wr => ∃ (i : Nat), ii = .int .i64 i ∧ Hid (i ≤ 6) ∧ Hid (TabW w1 wr T [⟨1, true, kind, index, R⟩] 5) ∧ Hid (RowAt (fun x : Int => [.int .i64 x]) 1 wr (some ⟨Z, 0, none⟩) xs)) (fun ii _ => 6 - (intOf ii).toNat)
  case atStart => exact ⟨0, rfl, Lib.hid (by omega), H0, RW⟩
  case round =>
    clear H0 RW
    obtain ⟨i, rfl, hi, H, RW⟩ := hrel
    by_cases hlt : i < 6
    · obtain ⟨bb, off, eb, hbl, hc⟩ := RW.out i (by rw [hxl.out]; exact hlt)
      obtain ⟨rfl, rfl⟩ : Z = bb ∧ 0 = off := by injection eb with eb; injection eb with e1 e2; exact ⟨e1, e2⟩
      have z0 := hc 0 _ rfl
      obtain ⟨r, hr⟩ : ∃ a, a = xs[i]'(by rw [hxl.out]; exact hlt) := ⟨_, rfl⟩
      have hrr := hxr.out r (by rw [hr]; exact List.getElem_mem _)
      rw [← hr] at z0
      simp only [Nat.mul_one, Nat.add_zero, Nat.zero_add] at z0
      have hlH := Lib.hid hlt
      have si := sub_iff (R := (R : Int)) hrr
      have nd := need_c H.out.S h hh64.out kind r
      rw [hfd.out] at nd
      have q1 : (index != index) = false := by simp
      clear hc hbl hr eb
      by_cases hs : bits .and .i64 (R : Int) r = r
      · have h1 := si.2 hs
        have b1 : (bits .andNot .i64 r (R : Int) == 0) = true := by rw [h1]; rfl
        have b2 : (bits .andNot .i64 r (R : Int) != 0) = false := by rw [h1]; rfl
        have en : needA [⟨1, true, kind, index, R⟩] kind r (some 0) = (index, 0) := by
          show (if kind ≠ kind then ((0, 7) : Int × Int) else if bits .and .i64 (R : Int) r ≠ r then (0, 6) else (index, 0)) = (index, 0)
          rw [if_neg (by simp), if_neg (by simp [hs])]
        rw [en] at nd
        replace nd := Lib.hid nd
        clear h1 si hs en
        go_wp2_with fail
        refine nd.out.mono ?_
        rintro e w5 ⟨rfl, F⟩
        replace H := Lib.hid (H.out.below F); replace RW := Lib.hid (RW.out.below F)
        clear nd F z0
        go_wp2
        go_roundw
        case rel => exact ⟨i + 1, by go_num, hlH, H, RW⟩
        case measure => have := hlH.out; simp [intOf]; omega
      · have h1 : bits .andNot .i64 r (R : Int) ≠ 0 := fun e => hs (si.1 e)
        have b1 : (bits .andNot .i64 r (R : Int) == 0) = false := by simpa using h1
        have b2 : (bits .andNot .i64 r (R : Int) != 0) = true := by simpa using h1
        have en : needA [⟨1, true, kind, index, R⟩] kind r (some 0) = (0, 6) := by
          show (if kind ≠ kind then ((0, 7) : Int × Int) else if bits .and .i64 (R : Int) r ≠ r then (0, 6) else (index, 0)) = (0, 6)
          rw [if_neg (by simp), if_pos hs]
        rw [en] at nd
        replace nd := Lib.hid nd
        clear h1 si hs en
        go_wp2_with fail
        refine nd.out.mono ?_
        rintro e w5 ⟨rfl, F⟩
        replace H := Lib.hid (H.out.below F); replace RW := Lib.hid (RW.out.below F)
        clear nd F z0
        go_wp2
        go_roundw
        case rel => exact ⟨i + 1, by go_num, hlH, H, RW⟩
        case measure => have := hlH.out; simp [intOf]; omega
    · obtain rfl : i = 6 := by have := hi.out; omega
      have nd := need_c H.out.S h hh64.out (wrap64 (kind + 1)) 0
      have en : needA [⟨1, true, kind, index, R⟩] (wrap64 (kind + 1)) 0 (some 0) = (0, 7) := by
        show (if kind ≠ wrap64 (kind + 1) then ((0, 7) : Int × Int) else if bits .and .i64 (R : Int) 0 ≠ 0 then (0, 6) else (index, 0)) = (0, 7)
        rw [if_pos hkw.out]
      rw [hfd.out, en] at nd
      replace nd := Lib.hid nd
      clear hlt hi RW en
      go_wp2_with fail
      refine nd.out.mono ?_
      rintro e w5 ⟨rfl, F2⟩
      have B := Lib.hid (F.out.trans ((H.out.below F2).B.mono F.out.size))
      go_wp2
      go_ret
      exact ⟨rfl, B.out⟩
end Go.Proofs.YtaflekpfpdnbcaaDoor
