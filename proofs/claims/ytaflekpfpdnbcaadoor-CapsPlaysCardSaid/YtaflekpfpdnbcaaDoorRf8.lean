/- The document's tables: what a handle stands for; how many. -/
import Derived.Test.YtaflekpfpdnbcaaDoorRf7
import Derived.Test.YtaflekpfpdnbcaaDoorLk
namespace Go.Proofs.YtaflekpfpdnbcaaDoor
open Go.RowKit
set_option linter.unusedVariables false
set_option linter.unusedSimpArgs false
set_option linter.unusedSectionVars false
set_option maxRecDepth 100000

set_option maxHeartbeats 4000000 in
theorem need_d {w : World} {A : Option Addr} {c : Nat} {P : List Pc} {most : Nat} (hr : RowAt pcE.f 5 w A P) (hp : ∀ x ∈ P, x.Ok most) (hm : most ≤ 16777215) (hl : P.length ≤ 256) (h : Nat) (hh : h < 18446744073709551616) (m : Int) (kind rights : Int) :
    Calls Tryd.prog 42 #[.agg #[.slice A P.length c, .int .i64 m], .int .u64 h, .int .i64 kind, .int .i64 rights] w fun e w' => e = .returned (.tuple #[.int .i64 (needA P kind rights (findP P h)).1, .int .i64 (needA P kind rights (findP P h)).2]) ∧ Below w.heap.size w w' := by
  have B1 := blA (Below.refl w.heap.size w) (.cells #[.slice A P.length c, .int .i64 m] 65)
  have fd := find_d (c := c) (hr.below B1) hp hm hl h hh m
  have t0 := Cel.new w #[.slice A P.length c, .int .i64 m] 65 0 (.slice A P.length c) rfl
  have t1 := Cel.new w #[.slice A P.length c, .int .i64 m] 65 1 (.int .i64 m) rfl
  have HR := Lib.hid (hr.below B1)
  obtain ⟨n, hn⟩ : ∃ n, n = P.length := ⟨_, rfl⟩
  rw [← hn] at fd t0 t1 B1 HR ⊢
  have hn256 : n ≤ 256 := by omega
  have hZ0 : w.heap.size < (w.alloc (.cells #[.slice A n c, .int .i64 m] 65)).heap.size := by simp
  replace B1 := Lib.hid B1; replace fd := Lib.hid fd; replace hn := Lib.hid hn
  clear hr hp hm hl
  go_enter Tryd.func42, Tryd.ntmps42
  obtain ⟨t0a, t0b⟩ := t0
  obtain ⟨t1a, t1b⟩ := t1
  go_wp2_with fail
  generalize w.alloc (.cells #[.slice A n c, .int .i64 m] 65) = w1 at *
  generalize hZ : w.heap.size = Z at *
  replace hZ := Lib.hid hZ
  refine fd.out.mono ?_
  rintro e w2 ⟨rfl, F⟩
  have u0 := (F.cell (p := ⟨Z, 0, none⟩) hZ0).trans t0a
  have HR2 := Lib.hid (HR.out.below F)
  have B2 := Lib.hid (B1.out.trans (F.mono (Nat.le_of_lt hZ0)))
  clear t0a t0b t1a t1b F fd HR
  cases hf : findP P h with
  | none =>
    have ei : findI P h = -1 := by unfold findI; rw [hf]
    rw [ei]
    replace hf := Lib.hid hf
    clear ei
    go_wp2
    go_ret2
    refine ⟨by rw [hf.out]; rfl, ?_⟩
    first
      | exact B2.out
      | (rw [hZ.out]; exact B2.out)
  | some s =>
    obtain ⟨-, hs, -⟩ := findP_some hf
    have ei : findI P h = s := by unfold findI; rw [hf]
    rw [ei]
    obtain ⟨b, off, rfl, hbl, c0, c1, c2, c3, c4⟩ := HR2.out.pc5 hs
    have hsn : s < n := by rw [hn.out]; exact hs
    have hgd : P.getD s Pc.new = P[s] := by simp [hs]
    have ea : needA P kind rights (some s) = if P[s].kind ≠ kind then (0, 7) else if bits .and .i64 (P[s].rights : Nat) rights ≠ rights then (0, 6) else (P[s].index, 0) := by
      rw [← hgd]; rfl
    generalize P[s] = z at *
    obtain ⟨zg, zb, zk, zi, zr⟩ := z
    dsimp only at c0 c1 c2 c3 c4 ea
    have B3 := Lib.hid (B2.out.alloc (by have := B2.out.size; have := hZ.out; omega) (.cells #[.int .i64 zk, .int .i64 zi, .int .i64 (zr : Nat)] 69))
    replace hf := Lib.hid hf
    clear ei hs hgd
    by_cases h1 : zk = kind
    · subst h1
      have e1 : (zk != zk) = false := by simp
      by_cases h2 : bits .and .i64 (zr : Int) rights = rights
      · rw [if_neg (by simp), if_neg (by simp [h2])] at ea
        have e2 : (bits .and .i64 (zr : Int) rights != rights) = false := by rw [h2]; simp
        replace ea := Lib.hid ea; replace h2 := Lib.hid h2
        go_wp2
        go_ret2
        refine ⟨by rw [hf.out, ea.out]; rfl, ?_⟩
        first
          | exact B3.out
          | (rw [hZ.out]; exact B3.out)
      · rw [if_neg (by simp), if_pos h2] at ea
        have e2 : (bits .and .i64 (zr : Int) rights != rights) = true := by simpa using h2
        replace ea := Lib.hid ea
        clear h2
        go_wp2
        go_ret2
        refine ⟨by rw [hf.out, ea.out]; rfl, ?_⟩
        first
          | exact B3.out
          | (rw [hZ.out]; exact B3.out)
    · rw [if_pos h1] at ea
      have e1 : (zk != kind) = true := by simpa using h1
      replace ea := Lib.hid ea
      clear h1
      go_wp2
      go_ret2
      refine ⟨by rw [hf.out, ea.out]; rfl, ?_⟩
      first
        | exact B3.out
        | (rw [hZ.out]; exact B3.out)

theorem countP_take {α : Type} (f : α → Bool) (P : List α) {i : Nat} (hi : i < P.length) : (P.take (i + 1)).countP f = (P.take i).countP f + (if f P[i] then 1 else 0) := by
  rw [List.take_succ_eq_append_getElem hi, List.countP_append]
  simp [List.countP_cons]
set_option maxHeartbeats 4000000 in
theorem dead_d {w : World} {A : Option Addr} {c : Nat} {P : List Pc} (hr : RowAt pcE.f 5 w A P) (hl : P.length ≤ 256) (most : Nat) :
    Calls Tryd.prog 44 #[.agg #[.slice A P.length c, .int .i64 most]] w fun e w' => e = .returned (.int .i64 (P.countP (Pc.dead most))) ∧ Below w.heap.size w w' := by
  obtain ⟨n, hn⟩ : ∃ n, n = P.length := ⟨_, rfl⟩
  rw [← hn]
  replace hn := Lib.hid hn
  have t0 := Cel.new w #[.slice A n c, .int .i64 most] 65 0 (.slice A n c) rfl
  have t1 := Cel.new w #[.slice A n c, .int .i64 most] 65 1 (.int .i64 most) rfl
  have B1 := Lib.hid (blA (Below.refl w.heap.size w) (.cells #[.slice A n c, .int .i64 most] 65))
  have HR := Lib.hid (hr.below B1.out)
  have hZ0 : w.heap.size < (w.alloc (.cells #[.slice A n c, .int .i64 most] 65)).heap.size := by simp
  have hn256 : n ≤ 256 := by rw [hn.out]; exact hl
  clear hr hl
  go_enter Tryd.func44, Tryd.ntmps44
  go_wp2_with fail
  generalize hw1 : w.alloc (.cells #[.slice A n c, .int .i64 most] 65) = w1 at *
  generalize hZ : w.heap.size = Z at *
  replace hZ := Lib.hid hZ; replace hw1 := Lib.hid hw1; replace t0 := Lib.hid t0; replace t1 := Lib.hid t1
  go_loopw [3, 4] (fun cc kk wr => ∃ i k : Nat, kk = .int .i64 i ∧ cc = .int .i64 k ∧ Hid (k = (P.take i).countP (Pc.dead most)) ∧ Hid (i ≤ n) ∧ Hid (Below w1.heap.size w1 wr)) (fun _ kk _ => n - (intOf kk).toNat)
  case atStart => exact ⟨0, 0, rfl, rfl, Lib.hid rfl, Lib.hid (Nat.zero_le _), Lib.hid (Below.refl _ _)⟩
  case round =>
    obtain ⟨i, k, rfl, rfl, hk, hi, B⟩ := hrel
    have t0a := (B.out.cell (p := ⟨Z, 0, none⟩) hZ0).trans t0.out.1
    have t1a := (B.out.cell (p := ⟨Z, 1, none⟩) hZ0).trans t1.out.1
    have hk256 : k ≤ 256 := by rw [hk.out]; exact Nat.le_trans List.countP_le_length (by rw [List.length_take]; have := hn.out; omega)
    by_cases hlt : i < n
    · have hiP : i < P.length := by rw [← hn.out]; exact hlt
      obtain ⟨b, off, rfl, hbl, c0, c1, c2, c3, c4⟩ := HR.out.pc5 hiP
      have hct := countP_take (Pc.dead most) P hiP
      rw [← hk.out] at hct
      generalize P[i] = z at *
      obtain ⟨zg, zb, zk, zi, zr⟩ := z
      dsimp only at c0 c1
      replace c0 := (B.out.cell (p := ⟨b, off + i * 5, none⟩) hbl).trans c0
      replace c1 := (B.out.cell (p := ⟨b, off + i * 5 + 1, none⟩) hbl).trans c1
      have hlH := Lib.hid hlt
      have hi256 : i < 257 := by omega
      have hB2 := Lib.hid (B.out.drewN 1)
      clear c2 c3 c4 hbl
      cases zb with
      | true =>
        rw [show Pc.dead most ⟨zg, true, zk, zi, zr⟩ = false from rfl] at hct
        replace hct := Lib.hid (show k = (P.take (i + 1)).countP (Pc.dead most) by simpa using hct.symm)
        go_wp2
        go_quiet (fail)
        go_wp2
        go_roundw
        case rel => exact ⟨i + 1, k, by go_num, rfl, hct, hlH, Lib.hid (B.out.drewN _)⟩
        case measure => have := hlH.out; simp [intOf]; omega
      | false =>
        by_cases hg : most ≤ zg
        · have d1 : decide ((most : Int) ≤ (zg : Int)) = true := decide_eq_true (by omega)
          have d2 : decide (most ≤ zg) = true := decide_eq_true hg
          rw [show Pc.dead most ⟨zg, false, zk, zi, zr⟩ = true by unfold Pc.dead; simpa using hg] at hct
          replace hct := Lib.hid (show k + 1 = (P.take (i + 1)).countP (Pc.dead most) by simpa using hct.symm)
          go_wp2
          go_quiet (fail)
          go_wp2
          go_roundw
          case rel => exact ⟨i + 1, k + 1, by go_num, by go_num, hct, hlH, Lib.hid (B.out.drewN _)⟩
          case measure => have := hlH.out; simp [intOf]; omega
        · have d1 : decide ((most : Int) ≤ (zg : Int)) = false := decide_eq_false (by omega)
          have d2 : decide (most ≤ zg) = false := decide_eq_false hg
          rw [show Pc.dead most ⟨zg, false, zk, zi, zr⟩ = false by unfold Pc.dead; simpa using hg] at hct
          replace hct := Lib.hid (show k = (P.take (i + 1)).countP (Pc.dead most) by simpa using hct.symm)
          go_wp2
          go_quiet (fail)
          go_wp2
          go_roundw
          case rel => exact ⟨i + 1, k, by go_num, rfl, hct, hlH, Lib.hid (B.out.drewN _)⟩
          case measure => have := hlH.out; simp [intOf]; omega
    · obtain rfl : n = i := by have := hi.out; omega
      have hk2 := hk.out
      rw [List.take_of_length_le (by rw [← hn.out]; exact Nat.le_refl _)] at hk2
      replace hk2 := Lib.hid hk2
      go_wp2
      go_ret
      refine ⟨by rw [← hk2.out]; rfl, ?_⟩
      have := B1.out.trans (B.out.mono (Nat.le_of_lt hZ0))
      first
        | exact this
        | (rw [hZ.out]; exact this)

/-- How many handles stand for a thing. -/
def isOf (kind index : Int) (x : Pc) : Bool := x.is && (decide (x.kind = kind) && decide (x.index = index))
set_option maxHeartbeats 4000000 in
theorem of_d {w : World} {A : Option Addr} {c : Nat} {P : List Pc} (hr : RowAt pcE.f 5 w A P) (hl : P.length ≤ 256) (most kind index : Int) :
    Calls Tryd.prog 46 #[.agg #[.slice A P.length c, .int .i64 most], .int .i64 kind, .int .i64 index] w fun e w' => e = .returned (.int .i64 (P.countP (isOf kind index))) ∧ Below w.heap.size w w' := by
  obtain ⟨n, hn⟩ : ∃ n, n = P.length := ⟨_, rfl⟩
  rw [← hn]
  replace hn := Lib.hid hn
  have t0 := Cel.new w #[.slice A n c, .int .i64 most] 65 0 (.slice A n c) rfl
  have B1 := Lib.hid (blA (Below.refl w.heap.size w) (.cells #[.slice A n c, .int .i64 most] 65))
  have HR := Lib.hid (hr.below B1.out)
  have hZ0 : w.heap.size < (w.alloc (.cells #[.slice A n c, .int .i64 most] 65)).heap.size := by simp
  have hn256 : n ≤ 256 := by rw [hn.out]; exact hl
  clear hr hl
  go_enter Tryd.func46, Tryd.ntmps46
  go_wp2_with fail
  generalize hw1 : w.alloc (.cells #[.slice A n c, .int .i64 most] 65) = w1 at *
  generalize hZ : w.heap.size = Z at *
  replace hZ := Lib.hid hZ; replace hw1 := Lib.hid hw1; replace t0 := Lib.hid t0
  go_loopw [7, 8] (fun cc kk wr => ∃ i k : Nat, kk = .int .i64 i ∧ cc = .int .i64 k ∧ Hid (k = (P.take i).countP (isOf kind index)) ∧ Hid (i ≤ n) ∧ Hid (Below w1.heap.size w1 wr)) (fun _ kk _ => n - (intOf kk).toNat)
  case atStart => exact ⟨0, 0, rfl, rfl, Lib.hid rfl, Lib.hid (Nat.zero_le _), Lib.hid (Below.refl _ _)⟩
  case round =>
    obtain ⟨i, k, rfl, rfl, hk, hi, B⟩ := hrel
    have t0a := (B.out.cell (p := ⟨Z, 0, none⟩) hZ0).trans t0.out.1
    have hk256 : k ≤ 256 := by rw [hk.out]; exact Nat.le_trans List.countP_le_length (by rw [List.length_take]; have := hn.out; omega)
    by_cases hlt : i < n
    · have hiP : i < P.length := by rw [← hn.out]; exact hlt
      obtain ⟨b, off, rfl, hbl, c0, c1, c2, c3, c4⟩ := HR.out.pc5 hiP
      have hct := countP_take (isOf kind index) P hiP
      rw [← hk.out] at hct
      generalize P[i] = z at *
      obtain ⟨zg, zb, zk, zi, zr⟩ := z
      dsimp only at c0 c1 c2 c3 c4
      replace c0 := (B.out.cell (p := ⟨b, off + i * 5, none⟩) hbl).trans c0
      replace c1 := (B.out.cell (p := ⟨b, off + i * 5 + 1, none⟩) hbl).trans c1
      replace c2 := (B.out.cell (p := ⟨b, off + i * 5 + 2, none⟩) hbl).trans c2
      replace c3 := (B.out.cell (p := ⟨b, off + i * 5 + 3, none⟩) hbl).trans c3
      replace c4 := (B.out.cell (p := ⟨b, off + i * 5 + 4, none⟩) hbl).trans c4
      have hlH := Lib.hid hlt
      have hi256 : i < 257 := by omega
      have B2 := Lib.hid (B.out.alloc B.out.size (.cells #[.int .i64 (zg : Nat), .bool zb, .int .i64 zk, .int .i64 zi, .int .i64 (zr : Nat)] 96))
      clear hbl
      have four : (zb = true ∧ zk = kind ∧ zi = index) ∨ zb = false ∨ (zb = true ∧ zk ≠ kind) ∨ (zb = true ∧ zk = kind ∧ zi ≠ index) := by
        cases zb <;> simp
        by_cases h1 : zk = kind
        · by_cases h2 : zi = index
          · exact .inl ⟨h1, h2⟩
          · exact .inr (.inr ⟨h1, h2⟩)
        · exact .inr (.inl h1)
      rcases four with ⟨rfl, rfl, rfl⟩ | rfl | ⟨rfl, h1⟩ | ⟨rfl, rfl, h2⟩
      · rw [show isOf zk zi ⟨zg, true, zk, zi, zr⟩ = true by simp [isOf]] at hct
        replace hct := Lib.hid (show k + 1 = (P.take (i + 1)).countP (isOf zk zi) by simpa using hct.symm)
        have e1 : (zk == zk) = true := by simp
        have e2 : (zi == zi) = true := by simp
        go_wp2
        go_roundw
        case rel => exact ⟨i + 1, k + 1, by go_num, by go_num, hct, hlH, B2⟩
        case measure => have := hlH.out; simp [intOf]; omega
      · rw [show isOf kind index ⟨zg, false, zk, zi, zr⟩ = false by simp [isOf]] at hct
        replace hct := Lib.hid (show k = (P.take (i + 1)).countP (isOf kind index) by simpa using hct.symm)
        go_wp2
        go_roundw
        case rel => exact ⟨i + 1, k, by go_num, rfl, hct, hlH, B2⟩
        case measure => have := hlH.out; simp [intOf]; omega
      · rw [show isOf kind index ⟨zg, true, zk, zi, zr⟩ = false by simp [isOf, h1]] at hct
        replace hct := Lib.hid (show k = (P.take (i + 1)).countP (isOf kind index) by simpa using hct.symm)
        have e1 : (zk == kind) = false := by simpa using h1
        replace h1 := Lib.hid h1
        go_wp2
        go_roundw
        case rel => exact ⟨i + 1, k, by go_num, rfl, hct, hlH, B2⟩
        case measure => have := hlH.out; simp [intOf]; omega
      · rw [show isOf zk index ⟨zg, true, zk, zi, zr⟩ = false by simp [isOf, h2]] at hct
        replace hct := Lib.hid (show k = (P.take (i + 1)).countP (isOf zk index) by simpa using hct.symm)
        have e1 : (zk == zk) = true := by simp
        have e2 : (zi == index) = false := by simpa using h2
        replace h2 := Lib.hid h2
        go_wp2
        go_roundw
        case rel => exact ⟨i + 1, k, by go_num, rfl, hct, hlH, B2⟩
        case measure => have := hlH.out; simp [intOf]; omega
    · obtain rfl : n = i := by have := hi.out; omega
      have hk2 := hk.out
      rw [List.take_of_length_le (by rw [← hn.out]; exact Nat.le_refl _)] at hk2
      replace hk2 := Lib.hid hk2
      go_wp2
      go_ret
      refine ⟨by rw [← hk2.out]; rfl, ?_⟩
      have := B1.out.trans (B.out.mono (Nat.le_of_lt hZ0))
      first
        | exact this
        | (rw [hZ.out]; exact this)
end Go.Proofs.YtaflekpfpdnbcaaDoor
