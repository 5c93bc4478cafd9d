/- The document's tables: where a handle is; how many. -/
import Derived.Test.YtaflekpfpdnbcaaDoorRf6
namespace Go.Proofs.YtaflekpfpdnbcaaDoor
open Go.RowKit
set_option linter.unusedVariables false
set_option linter.unusedSimpArgs false
set_option linter.unusedSectionVars false
set_option maxRecDepth 100000

def findI (P : List Pc) (h : Nat) : Int := match findP P h with
  | some s => (s : Int)
  | none => -1
set_option maxHeartbeats 4000000 in
theorem find_d {w : World} {A : Option Addr} {c : Nat} {P : List Pc} {most : Nat} (hr : RowAt pcE.f 5 w A P) (hp : ∀ x ∈ P, x.Ok most) (hm : most ≤ 16777215) (hl : P.length ≤ 256) (h : Nat) (hh : h < 18446744073709551616) (m : Int) :
    Calls Tryd.prog 41 #[.agg #[.slice A P.length c, .int .i64 m], .int .u64 h] w fun e w' => e = .returned (.int .i64 (findI P h)) ∧ Below w.heap.size w w' := by
  obtain ⟨n, hn⟩ : ∃ n, n = P.length := ⟨_, rfl⟩
  rw [← hn]
  replace hn := Lib.hid hn
  have fR := fun i (hi : i < P.length) (his : P[i].is = true) => findR hp hm hl hi his h
  have HP := Lib.hid (fun i (hi : i < P.length) => hp _ (List.getElem_mem hi))
  replace fR := Lib.hid fR
  have t0 := Cel.new w #[.slice A n c, .int .i64 m] 65 0 (.slice A n c) rfl
  have B1 := Lib.hid (blA (Below.refl w.heap.size w) (.cells #[.slice A n c, .int .i64 m] 65))
  have HR := Lib.hid (hr.below B1.out)
  have hZ0 : w.heap.size < (w.alloc (.cells #[.slice A n c, .int .i64 m] 65)).heap.size := by simp
  have hn256 : n ≤ 256 := by rw [hn.out]; exact hl
  have hm2 := hm
  have hf0 : Hid ((∃ s, findP P h = some s ∧ findI P h = s) ∨ (findP P h = none ∧ findI P h = -1)) := Lib.hid (by
    unfold findI
    cases findP P h with
    | none => exact .inr ⟨rfl, rfl⟩
    | some s => exact .inl ⟨s, rfl, rfl⟩)
  clear hr hp hl
  go_enter Tryd.func41, Tryd.ntmps41
  go_wp2_with fail
  generalize hw1 : w.alloc (.cells #[.slice A n c, .int .i64 m] 65) = w1 at *
  generalize hZ : w.heap.size = Z at *
  replace hZ := Lib.hid hZ; replace hw1 := Lib.hid hw1; replace t0 := Lib.hid t0
  go_loopw [5] (fun kk wr => ∃ i : Nat, kk = .int .i64 i ∧ Hid (i ≤ n) ∧ Hid (∀ q, q < i → findP P h ≠ some q) ∧ Hid (Below w1.heap.size w1 wr)) (fun kk _ => n - (intOf kk).toNat)
  case atStart => exact ⟨0, rfl, Lib.hid (Nat.zero_le _), Lib.hid (fun q hq => by omega), Lib.hid (Below.refl _ _)⟩
  case round =>
    obtain ⟨i, rfl, hi, hno, B⟩ := hrel
    have t0a := (B.out.cell (p := ⟨Z, 0, none⟩) hZ0).trans t0.out.1
    by_cases hlt : i < n
    · have hiP : i < P.length := by rw [← hn.out]; exact hlt
      obtain ⟨b, off, rfl, hbl, c0, c1, c2, c3, c4⟩ := HR.out.pc5 hiP
      have ok := HP.out i hiP
      have fr := fR.out i hiP
      have hfs := fun (e : findP P h = some i) => (findP_some e).2
      obtain ⟨z, hz⟩ : ∃ z, z = P[i] := ⟨_, rfl⟩
      rw [← hz] at c0 c1 c2 c3 c4 ok fr
      obtain ⟨zg, zb, zk, zi, zr⟩ := z
      dsimp only at c0 c1 c2 c3 c4 fr
      replace c0 := (B.out.cell (p := ⟨b, off + i * 5, none⟩) hbl).trans c0
      replace c1 := (B.out.cell (p := ⟨b, off + i * 5 + 1, none⟩) hbl).trans c1
      replace c2 := (B.out.cell (p := ⟨b, off + i * 5 + 2, none⟩) hbl).trans c2
      replace c3 := (B.out.cell (p := ⟨b, off + i * 5 + 3, none⟩) hbl).trans c3
      replace c4 := (B.out.cell (p := ⟨b, off + i * 5 + 4, none⟩) hbl).trans c4
      have hlH := Lib.hid hlt
      have hi256 : i < 257 := by omega
      have B2 := Lib.hid (B.out.alloc B.out.size (.cells #[.int .i64 (zg : Nat), .bool zb, .int .i64 zk, .int .i64 zi, .int .i64 (zr : Nat)] 96))
      have hok := ok.gen
      cases zb with
      | false =>
        have hno2 := Lib.hid (show ∀ q, q < i + 1 → findP P h ≠ some q from fun q hq e => by
          by_cases e2 : q = i
          · subst e2
            obtain ⟨_, h2, -⟩ := hfs e
            rw [← hz] at h2; cases h2
          · exact hno.out q (by omega) e)
        clear fr hfs ok hz
        go_wp2
        go_roundw
        case rel => exact ⟨i + 1, by go_num, hlH, hno2, B2⟩
        case measure => have := hlH.out; simp [intOf]; omega
      | true =>
        have fr2 := fr rfl
        have bc := fun w => bits5_c w i zg zr (by omega) (by dsimp only at hok; omega) ((ok.is rfl).2)
        obtain ⟨bv, hbv⟩ : ∃ b, b = zg * 16777216 + i * 256 + zr := ⟨_, rfl⟩
        rw [← hbv] at bc
        rw [show bitsP i ⟨zg, true, zk, zi, zr⟩ = zg * 16777216 + i * 256 + zr from rfl, ← hbv] at fr2
        replace hbv := Lib.hid hbv; replace bc := Lib.hid bc
        by_cases heq : bv = h
        · have e1 : ((bv : Int) == (h : Int)) = true := by rw [heq]; simp
          have hfin := Lib.hid (fr2.1 heq)
          clear fr fr2 hfs ok hz heq
          go_wp2_with fail
          refine (bc.out _).mono ?_
          rintro e w5 ⟨rfl, rfl⟩
          go_wp2
          go_ret
          refine ⟨?_, ?_⟩
          · rcases hf0.out with ⟨s, k1, k2⟩ | ⟨k1, k2⟩
            · rw [hfin.out] at k1
              injection k1 with k1
              rw [k2, k1]; rfl
            · rw [hfin.out] at k1; cases k1
          · have := B1.out.trans (B2.out.mono (Nat.le_of_lt hZ0))
            first
              | exact this
              | (rw [hZ.out]; exact this)
        · have e1 : ((bv : Int) == (h : Int)) = false := by simp; omega
          have hno2 := Lib.hid (show ∀ q, q < i + 1 → findP P h ≠ some q from fun q hq e => by
            by_cases e2 : q = i
            · subst e2
              exact heq (fr2.2 e)
            · exact hno.out q (by omega) e)
          clear fr fr2 hfs ok hz heq
          go_wp2_with fail
          refine (bc.out _).mono ?_
          rintro e w5 ⟨rfl, rfl⟩
          go_wp2
          go_roundw
          case rel => exact ⟨i + 1, by go_num, hlH, hno2, B2⟩
          case measure => have := hlH.out; simp [intOf]; omega
    · obtain rfl : n = i := by have := hi.out; omega
      have hfin := Lib.hid (show findI P h = -1 from by
        rcases hf0.out with ⟨s, k1, k2⟩ | ⟨k1, k2⟩
        · obtain ⟨-, hs, -⟩ := findP_some k1
          exact absurd k1 (hno.out s (by rw [hn.out]; exact hs))
        · exact k2)
      go_wp2
      go_ret
      refine ⟨by rw [hfin.out]; rfl, ?_⟩
      have := B1.out.trans (B.out.mono (Nat.le_of_lt hZ0))
      first
        | exact this
        | (rw [hZ.out]; exact this)
end Go.Proofs.YtaflekpfpdnbcaaDoor
