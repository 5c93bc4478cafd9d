/- Contracts of the document's answer for sets. -/
import Derived.Test.YtkogkimncoaboaaDoorAl2
import Derived.Test.YtkogkimncoaboaaDoorOwnE
namespace Go.Proofs.YtkogkimncoaboaaDoor
open Go.RowKit
set_option linter.unusedVariables false
set_option linter.unusedSimpArgs false
set_option linter.unusedSectionVars false
set_option maxRecDepth 100000

def bE : Enc Bool where
  t := 4
  sz := 1
  f := fun x => [.bool x]
  z := .bool false
  bytes := 1
  len := fun x => rfl
  one := fun x v h => by simp at h; subst h; rfl
  info := by kernel_rfl
  zs := rfl
  pos := by decide
  small := by decide
theorem infoB : (Tryd.prog.info? 4).map (fun i => (i.zero, i.size, i.bytes)) = some (some (.bool false), 1, 1) := by kernel_rfl
theorem OwnE.atB {w : World} {base g n c i : Nat} {L : List Bool} (h : OwnE bE w base (.slice (some ⟨g, 0, none⟩) n c) L) (hi : i < L.length) : Cel w g i (.bool L[i]) := by
  have := OwnE.cel (E := bE) (j := 0) h hi rfl
  rwa [show i * bE.sz + 0 = i by show i * 1 + 0 = i; omega] at this

theorem zerosB {Z : Array Value} {n : Nat} (s1 : Z.size = n * 1) (z1 : ∀ k f, k < n → f < 1 → Z[k * 1 + f]? = (Value.bool false).cells[f]?) : Z = (bE.row (List.replicate n false)).toArray := by
  apply Array.ext_getElem?
  intro i
  rw [show ((bE.row (List.replicate n false)).toArray)[i]? = (bE.row (List.replicate n false))[i]? from by simp]
  by_cases hi : i < n
  · have h1 := z1 i 0 hi (by decide)
    rw [Nat.mul_one, Nat.add_zero] at h1
    rw [h1]
    have h2 := Enc.row_at (E := bE) (List.replicate n false) i 0 (by simpa using hi) (by decide)
    rw [show i * bE.sz + 0 = i by show i * 1 + 0 = i; omega] at h2
    rw [h2]
    simp [bE]
    rfl
  · rw [Array.getElem?_eq_none (by rw [s1]; omega), List.getElem?_eq_none (by rw [Enc.row_length]; simp; show n * 1 ≤ i; omega)]

set_option maxHeartbeats 2000000 in
theorem rnew_c (w : World) (a : Int) : Calls Tryd.prog 10 #[.int .i64 a] w fun e w' => ∃ v, e = .returned v ∧ OwnE bE w' w.heap.size v (List.replicate (capB a) false) ∧ Below w.heap.size w w' := by
  obtain ⟨n, hn⟩ : ∃ n, n = capB a := ⟨_, rfl⟩
  have hn4 : n ≤ 4096 := by rw [hn]; unfold capB; omega
  have hc : (a < 0 ∧ n = 0) ∨ (4096 < a ∧ n = 4096) ∨ (0 ≤ a ∧ a ≤ 4096 ∧ a = (n : Int)) := by rw [hn]; unfold capB; omega
  obtain ⟨Z, s1, z1, k1⟩ := make_eq (t := 26) Tryd.underlying26 infoB rfl rfl .i64 .i64 n (by omega) (by omega)
  have hZ := zerosB s1 z1
  have O := OwnE.lit (E := bE) w w.heap.size (Nat.le_refl _) (List.replicate n false) Z hZ (by simp; simp only [maxLen]; omega)
  rw [List.length_replicate] at O
  replace O := Lib.hid (show OwnE bE (w.alloc (.cells Z 4)) w.heap.size (.slice (some ⟨w.heap.size, 0, none⟩) n n) (List.replicate n false) from O)
  have HB := Lib.hid (Below.alloc (Below.refl w.heap.size w) (Nat.le_refl _) (.cells Z 4))
  rw [← hn]
  clear hZ s1 z1 hn
  rcases hc with ⟨h1, h2⟩ | ⟨h1, h2⟩ | ⟨h1, h2, h3⟩
  · have d1 : decide (a < 0) = true := by simp; omega
    subst h2
    go_enter Tryd.func10, Tryd.ntmps10
    have k2 := k1
    rw [show ((0 : Nat) : Int) = 0 from rfl] at k2
    go_wp2
    go_ret
    exact ⟨_, rfl, O.out, HB.out⟩
  · have d1 : decide (a < 0) = false := by simp; omega
    have d2 : decide (4096 < a) = true := by simp; omega
    subst h2
    go_enter Tryd.func10, Tryd.ntmps10
    have k2 := k1
    rw [show ((4096 : Nat) : Int) = 4096 from rfl] at k2
    go_wp2
    go_ret
    exact ⟨_, rfl, O.out, HB.out⟩
  · have d1 : decide ((n : Int) < 0) = false := by simp
    have d2 : decide (4096 < (n : Int)) = false := by simp; omega
    subst h3
    go_enter Tryd.func10, Tryd.ntmps10
    go_wp2
    go_ret
    exact ⟨_, rfl, O.out, HB.out⟩

set_option maxHeartbeats 1000000 in
theorem rhas_c {w : World} {base c : Nat} {A : Option Addr} {X : List Bool} (h : OwnE bE w base (.slice A X.length c) X) (k : Int) :
    Calls Tryd.prog 11 #[.slice A X.length c, .int .i64 k] w fun e w' => e = .returned (.bool (hasB X k)) ∧ w = w' := by
  have H := Lib.hid h
  clear h
  by_cases h0 : 0 ≤ k
  · obtain ⟨K, rfl⟩ := Int.eq_ofNat_of_zero_le h0
    have d0 : decide ((0 : Int) ≤ (K : Int)) = true := by simp
    by_cases hk : K < X.length
    · obtain ⟨g, c', e, _, hgs, _⟩ := H.out.pos (by omega)
      injection e with e1 e2 e3
      subst e1; subst e3
      have hy := (H.out.atB hk).1
      rw [← hasB_nat hk] at hy
      go_enter Tryd.func11, Tryd.ntmps11
      go_wp2
      go_ret
      exact ⟨rfl, rfl⟩
    · have d1 : decide ((K : Int) < (X.length : Int)) = false := by simp; omega
      have hr := Lib.hid (hasB_out (X := X) (K := K) (by omega))
      go_enter Tryd.func11, Tryd.ntmps11
      go_wp2
      go_ret
      exact ⟨by rw [hr.out]; rfl, rfl⟩
  · have d0 : decide ((0 : Int) ≤ k) = false := by simp; omega
    have hr := Lib.hid (hasB_neg (X := X) (k := k) (by omega))
    go_enter Tryd.func11, Tryd.ntmps11
    go_wp2
    go_ret
    exact ⟨by rw [hr.out]; rfl, rfl⟩

set_option maxHeartbeats 2000000 in
theorem rset_c {w : World} {base c : Nat} {A : Option Addr} {X : List Bool} (h : OwnE bE w base (.slice A X.length c) X) (hl : X.length ≤ 4096) {K : Nat} (hk : K < X.length) (b : Bool) :
    Calls Tryd.prog 13 #[.slice A X.length c, .int .i64 K, .bool b] w fun e w' => ∃ v', e = .returned v' ∧ OwnE bE w' w.heap.size v' (X.set K b) ∧ Below w.heap.size w w' := by
  have E0 := Lib.hid (show OwnE bE (w.alloc (.cells #[] 4)) w.heap.size (.slice (some ⟨w.heap.size, 0, none⟩) 0 0) [] from OwnE.lit (E := bE) w w.heap.size (Nat.le_refl _) [] #[] rfl (by simp))
  have HR := Lib.hid (h.alloc (.cells #[] 4)).row.1
  have HB := Lib.hid (Below.alloc (Below.refl w.heap.size w) (Nat.le_refl _) (.cells #[] 4))
  clear h
  go_enter Tryd.func13, Tryd.ntmps13
  go_wp2_with (first | (at_builtin; refine append_rowE (E := bE) (ys := X) (xs := []) rfl rfl Tryd.underlying26 rfl E0.out rfl HR.out rfl (by simp) (by omega) (by simp) ?_))
  intro v' w1 G1 G2 G3 G4
  replace G1 : OwnE bE w1 w.heap.size v' X := G1
  obtain ⟨g, c1, rfl, hg, hgs, _⟩ := G1.pos (by omega)
  have f0 := (G1.atB hk).2
  have y0 := (G1.atB hk).1
  have HB1 := Lib.hid (HB.out.trans G2)
  replace G1 := Lib.hid G1
  replace hg := Lib.hid hg
  clear G2 G3 G4 E0 HR HB
  go_wp2
  go_ret
  have hh := OwnE.set (E := bE) (j := 0) (u := .bool b) (y := b) G1.out hk (by decide) rfl
  rw [show K * bE.sz + 0 = K by show K * 1 + 0 = K; omega] at hh
  exact ⟨_, rfl, hh, HB1.out.trans ⟨rfl, rfl, rfl, by simp, fun q hq => by have := hg.out; rw [Below.heap_setCell _ _ _ _ (by simp only; omega)]⟩⟩

set_option maxHeartbeats 2000000 in
theorem rcount_c {w : World} {base c : Nat} {A : Option Addr} {X : List Bool} (h : OwnE bE w base (.slice A X.length c) X) (hl : X.length ≤ 4096) :
    Calls Tryd.prog 21 #[.slice A X.length c] w fun e w' => e = .returned (.int .i64 (X.count true)) ∧ w = w' := by
  have H := Lib.hid h
  clear h
  go_enter Tryd.func21, Tryd.ntmps21
  go_wp2_with fail
  go_loopw [3, 4] (fun nv ii wr => ∃ n i : Nat, nv = .int .i64 n ∧ ii = .int .i64 i ∧ wr = w ∧ Hid (n = (X.take i).count true) ∧ Hid (i ≤ X.length)) (fun _ ii _ => X.length - (intOf ii).toNat)
  case atStart => exact ⟨0, 0, rfl, rfl, rfl, Lib.hid (by simp), Lib.hid (Nat.zero_le _)⟩
  case round =>
    obtain ⟨n, i, rfl, rfl, rfl, hn, hi⟩ := hrel
    by_cases hlt : i < X.length
    · obtain ⟨g, c', e, _, hgs, _⟩ := H.out.pos (by omega)
      injection e with e1 e2 e3
      subst e1; subst e3
      have hy := (H.out.atB hlt).1
      have hn4 : n ≤ 4096 := by rw [hn.out]; exact Nat.le_trans (List.count_le_length) (by simp; omega)
      have hst : (X.take (i + 1)).count true = n + if X[i] then 1 else 0 := by
        rw [show X.take (i + 1) = X.take i ++ [X[i]] by simp, List.count_append, hn.out]
        cases X[i] <;> simp
      replace hst := Lib.hid hst
      cases hx : X[i] with
      | true =>
        rw [hx] at hy hst
        clear hx hn
        go_wp2
        go_roundw
        case rel => exact ⟨n + 1, i + 1, by go_num, by go_num, by first | trivial | rfl, Lib.hid (by rw [hst.out]; rfl), Lib.hid (by omega)⟩
        case measure => simp [intOf]; omega
      | false =>
        rw [hx] at hy hst
        clear hx hn
        go_wp2
        go_roundw
        case rel => exact ⟨n, i + 1, rfl, by go_num, by first | trivial | rfl, Lib.hid (by rw [hst.out]; rfl), Lib.hid (by omega)⟩
        case measure => simp [intOf]; omega
    · have hn2 := Lib.hid (show n = X.count true by rw [hn.out, List.take_of_length_le (by omega)])
      clear hn
      go_wp2
      go_ret
      exact ⟨by rw [← hn2.out]; rfl, rfl⟩

set_option maxHeartbeats 2000000 in
theorem rnext_c {w : World} {base c : Nat} {A : Option Addr} {X : List Bool} (h : OwnE bE w base (.slice A X.length c) X) (hl : X.length ≤ 4096) (k : Int) (b : Bool) :
    Calls Tryd.prog 16 #[.slice A X.length c, .int .i64 k, .bool b] w fun e w' => e = .returned (.tuple #[.int .i64 (nextV X b k), .bool (nextO X b k)]) ∧ w = w' := by
  have H := Lib.hid h
  have hk0 : (k < 0 ∧ k.toNat = 0) ∨ (0 ≤ k ∧ k = (k.toNat : Int)) := by omega
  obtain ⟨K, hK⟩ : ∃ K, K = k.toNat := ⟨_, rfl⟩
  rw [← hK] at hk0
  clear h
  rcases hk0 with ⟨h1, h2⟩ | ⟨h1, h2⟩
  · subst h2
    have d1 : decide (k < 0) = true := by simp; omega
    replace hK := Lib.hid hK.symm
    replace h1 := Lib.hid h1
    go_enter Tryd.func16, Tryd.ntmps16
    go_wp2_with fail
    go_loopw [1] (fun ii wr => ∃ i : Nat, ii = .int .i64 i ∧ wr = w ∧ Hid (0 ≤ i) ∧ Hid (∀ j (h : j < X.length), 0 ≤ j → j < i → X[j] ≠ b)) (fun ii _ => X.length - (intOf ii).toNat)
    case atStart => exact ⟨0, rfl, rfl, Lib.hid (Nat.le_refl _), Lib.hid (fun j h a1 a2 => by omega)⟩
    case round =>
      obtain ⟨i, rfl, rfl, hKi, hno⟩ := hrel
      by_cases hlt : i < X.length
      · obtain ⟨g, c', e, _, hgs, _⟩ := H.out.pos (by omega)
        injection e with e1 e2 e3
        subst e1; subst e3
        have hy := (H.out.atB hlt).1
        obtain ⟨y, hyx⟩ : ∃ y, y = X[i] := ⟨_, rfl⟩
        rw [← hyx] at hy
        replace hyx := Lib.hid hyx
        by_cases hb : y = b
        · have hf := nextO_some (X := X) (b := b) (k := k) (j := i) (by rw [hK.out]; exact nextB_some hlt hKi.out (by rw [← hyx.out]; exact hb) hno.out)
          replace hf := Lib.hid hf
          have e1 : (y == b) = true := by rw [hb]; simp
          replace hb := Lib.hid hb
          clear hno
          go_wp2
          go_ret2
          exact ⟨by rw [hf.out.1, hf.out.2]; rfl, rfl⟩
        · have e1 : (y == b) = false := by simp [hb]
          have hno2 := Lib.hid (show ∀ j (h : j < X.length), 0 ≤ j → j < i + 1 → X[j] ≠ b from fun j h a1 a2 => by
            by_cases hj : j = i
            · subst hj; rw [← hyx.out]; exact hb
            · exact hno.out j h a1 (by omega))
          replace hb := Lib.hid hb
          clear hno
          go_wp2
          go_roundw
          case rel => exact ⟨i + 1, by go_num, by first | trivial | rfl, Lib.hid (by have := hKi.out; omega), hno2⟩
          case measure => simp [intOf]; omega
      · have hf := nextO_none (X := X) (b := b) (k := k) (by rw [hK.out]; exact nextB_none (fun j hj a1 => hno.out j hj a1 (by omega)))
        replace hf := Lib.hid hf
        clear hno
        go_wp2
        go_ret2
        exact ⟨by rw [hf.out.1, hf.out.2]; rfl, rfl⟩
  · have d1 : decide ((K : Int) < 0) = false := by simp
    replace hK := Lib.hid hK.symm
    subst h2
    clear h1
    go_enter Tryd.func16, Tryd.ntmps16
    go_wp2_with fail
    go_loopw [1] (fun ii wr => ∃ i : Nat, ii = .int .i64 i ∧ wr = w ∧ Hid (K ≤ i) ∧ Hid (∀ j (h : j < X.length), K ≤ j → j < i → X[j] ≠ b)) (fun ii _ => X.length - (intOf ii).toNat)
    case atStart => exact ⟨K, rfl, rfl, Lib.hid (Nat.le_refl _), Lib.hid (fun j h a1 a2 => by omega)⟩
    case round =>
      obtain ⟨i, rfl, rfl, hKi, hno⟩ := hrel
      by_cases hlt : i < X.length
      · obtain ⟨g, c', e, _, hgs, _⟩ := H.out.pos (by omega)
        injection e with e1 e2 e3
        subst e1; subst e3
        have hy := (H.out.atB hlt).1
        obtain ⟨y, hyx⟩ : ∃ y, y = X[i] := ⟨_, rfl⟩
        rw [← hyx] at hy
        replace hyx := Lib.hid hyx
        by_cases hb : y = b
        · have hf := nextO_some (X := X) (b := b) (k := (K : Int)) (j := i) (by rw [hK.out]; exact nextB_some hlt hKi.out (by rw [← hyx.out]; exact hb) hno.out)
          replace hf := Lib.hid hf
          have e1 : (y == b) = true := by rw [hb]; simp
          replace hb := Lib.hid hb
          clear hno
          go_wp2
          go_ret2
          exact ⟨by rw [hf.out.1, hf.out.2]; rfl, rfl⟩
        · have e1 : (y == b) = false := by simp [hb]
          have hno2 := Lib.hid (show ∀ j (h : j < X.length), K ≤ j → j < i + 1 → X[j] ≠ b from fun j h a1 a2 => by
            by_cases hj : j = i
            · subst hj; rw [← hyx.out]; exact hb
            · exact hno.out j h a1 (by omega))
          replace hb := Lib.hid hb
          clear hno
          go_wp2
          go_roundw
          case rel => exact ⟨i + 1, by go_num, by first | trivial | rfl, Lib.hid (by have := hKi.out; omega), hno2⟩
          case measure => simp [intOf]; omega
      · have hf := nextO_none (X := X) (b := b) (k := (K : Int)) (by rw [hK.out]; exact nextB_none (fun j hj a1 => hno.out j hj a1 (by omega)))
        replace hf := Lib.hid hf
        clear hno
        go_wp2
        go_ret2
        exact ⟨by rw [hf.out.1, hf.out.2]; rfl, rfl⟩
end Go.Proofs.YtkogkimncoaboaaDoor
