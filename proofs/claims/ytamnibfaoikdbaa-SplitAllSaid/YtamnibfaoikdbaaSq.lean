/- split.Squeeze, and the document's. -/
import Derived.Test.YtamnibfaoikdbaaRt3
import Derived.Test.YtamnibfaoikdbaaSqP
namespace Go.Proofs.Ytamnibfaoikdbaa
open Go.RowKit
set_option linter.unusedVariables false
set_option linter.unusedSimpArgs false
set_option maxRecDepth 100000

theorem pSt_len (out : List En) (e : En) : (pSt out e).length ≤ out.length + 1 := by
  unfold pSt
  split
  · simp
  · split
    · split
      · split <;> simp
      · simp
    · simp
theorem getLast_at {out : List En} {m : Nat} (hm : out.length = m + 1) {l : En} (hl : ∃ h : m < out.length, l = out[m]) : out.getLast? = some l := by
  obtain ⟨h, rfl⟩ := hl
  rw [List.getLast?_eq_getElem?, hm, Nat.add_sub_cancel, List.getElem?_eq_getElem h]
theorem below_set {B g o : Nat} {a w : World} (h : Below B a w) (hg : B ≤ g) {v : Value} : Below B a (w.setCell ⟨g, o, none⟩ v) :=
  h.trans ⟨rfl, rfl, rfl, by simp, fun k hk => Below.heap_setCell _ _ _ _ (by simp only; omega)⟩
theorem SqR.last {out rest all : List En} (h : SqR out rest all) {l : En} (hl : out.getLast? = some l) (hk : l.kind = 0) : 1 ≤ l.n ∧ l.n ≤ 100 := by
  obtain ⟨d, r, rfl, hd, _⟩ := h
  by_cases hr : 0 < r
  · obtain ⟨s, m, hs, m1, m2, _⟩ := steps_last r hr
    rw [hs, ← List.append_assoc, List.getLast?_append] at hl
    simp at hl
    rw [← hl]
    simp [tk]; omega
  · have : r = 0 := by omega
    subst this
    rw [steps_zero, List.append_nil] at hl
    exact absurd hk (hd l (by rw [hl]; rfl))

set_option maxHeartbeats 4000000 in
theorem squeeze_c {w : World} {A : Option Addr} {c : Nat} {xs : List En} (hr : RowAt En.cells 9 w A xs) (hl : xs.length ≤ 10000) (ok : okT xs) :
    Calls Try.prog 27 #[.slice A xs.length c] w fun r w' => ∃ v, r = .returned v ∧ OwnE enE w' w.heap.size v (sqGo 0 xs) ∧ Below w.heap.size w w' := by
  have HR := Lib.hid hr
  have OK := Lib.hid ok
  clear hr ok
  go_enter Try.func27, Try.ntmps27
  go_wp2_with fail
  go_loopw [3, 11] (fun v ii wr => ∃ (i : Nat) (out : List En), ii = .int .i64 i ∧ Hid (OwnE enE wr w.heap.size v out) ∧ Hid (SqR out (xs.drop i) xs) ∧ Hid (out.length ≤ 2 * i) ∧ Hid (i ≤ xs.length) ∧ Hid (Below w.heap.size w wr)) (fun v ii _ => xs.length - (intOf ii).toNat)
  case atStart => exact ⟨0, [], rfl, Lib.hid (OwnE.nil _ _), Lib.hid (SqR.start xs), Lib.hid (Nat.zero_le _), Lib.hid (Nat.zero_le _), Lib.hid (Below.refl _ _)⟩
  case round =>
    obtain ⟨i, out, rfl, hO, hS, hol, hi, hB⟩ := hrel
    by_cases hlt : i < xs.length
    · obtain ⟨b, off, rfl, hbl, c0, c1, c2, c3, c4, c5, c6, c7, c8⟩ := HR.out.en hlt
      rw [← hB.out.cell (p := ⟨b, _, none⟩) hbl] at c0 c1 c2 c3 c4 c5 c6 c7 c8
      have hok := OK.out xs[i] (List.getElem_mem hlt)
      have hd : xs.drop i = xs[i] :: xs.drop (i + 1) := List.drop_eq_getElem_cons hlt
      have hst : SqR (pSt out xs[i]) (xs.drop (i + 1)) xs := SqR.step (by rw [← hd]; exact hS.out) hok
      have hfl : out.length ≤ 9000000 := by have := hol.out; omega
      obtain ⟨e, he⟩ : ∃ e, e = xs[i] := ⟨_, rfl⟩
      rw [← he] at c0 c1 c2 c3 c4 c5 c6 c7 c8 hst hok
      replace hst := Lib.hid hst; replace hok := Lib.hid hok; replace hfl := Lib.hid hfl; replace he := Lib.hid he
      clear hd
      by_cases hk : e.kind = 0
      · have e1 : (e.kind == 0) = true := beq_iff_eq.mpr hk
        have e2 : (e.kind != 0) = false := by simp [hk]
        have hn := hok.out hk
        replace hk := Lib.hid hk
        have hO1 := hO.out
        obtain ⟨A, c', rfl, hcc⟩ := hO1.slice
        clear hO1
        by_cases h0 : 0 < out.length
        · obtain ⟨g, c'', ee, hg1, hg2, hg3⟩ := hO.out.pos h0
          injection ee with ee1 ee2 ee3
          subst ee1; subst ee3
          obtain ⟨m, hm⟩ : ∃ m, out.length = m + 1 := ⟨out.length - 1, by omega⟩
          have hml : m < out.length := by omega
          obtain ⟨l, hl⟩ : ∃ l, l = out[m] := ⟨_, rfl⟩
          have d0 := (OwnE.cel (E := enE) (j := 0) (u := .int .i64 l.kind) hO.out hml (by rw [← hl]; rfl)).1
          have d2 := (OwnE.cel (E := enE) (j := 2) (u := .int .i64 l.n) hO.out hml (by rw [← hl]; rfl))
          rw [show m * enE.sz + 0 = m * 9 from rfl] at d0
          rw [show m * enE.sz + 2 = m * 9 + 2 from rfl] at d2
          obtain ⟨d2, d2f⟩ := d2
          have hw1 : wrap64 ((out.length : Int) - 1) = (m : Int) := by have := hfl.out; unfold wrap64; omega
          have hmi : (m : Int) < (out.length : Int) := by omega
          replace hm := Lib.hid hm; replace hl := Lib.hid hl
          have hgl := getLast_at hm.out ⟨hml, hl.out⟩
          by_cases hlk : l.kind = 0
          · have e3 : (l.kind == 0) = true := beq_iff_eq.mpr hlk
            have hln := hS.out.last hgl hlk
            have hw2 : wrap64 (100 - l.n) = 100 - l.n := by unfold wrap64; omega
            by_cases hC : l.n + e.n ≤ 100
            · have hps : pSt out e = out.set m { l with n := l.n + e.n } := by
                unfold pSt; rw [if_neg (by simpa using hk.out), hgl]; simp only; rw [if_pos hlk, if_pos hC, hm.out, Nat.add_sub_cancel]
              have hset1 : OwnE enE (wr.setCell ⟨g, m * 9 + 2, none⟩ (.int .i64 (l.n + e.n))) w.heap.size (.slice (some ⟨g, 0, none⟩) out.length c') (out.set m { l with n := l.n + e.n }) :=
                OwnE.set (j := 2) hO.out hml (by decide) (by rw [← hl.out]; rfl)
              have hw3 : wrap64 (l.n + e.n) = l.n + e.n := by unfold wrap64; omega
              have hx1 : e.n ≤ 100 - l.n := by omega
              have hx2 : ¬ (100 - l.n < e.n) := by omega
              replace hps := Lib.hid hps; replace hset1 := Lib.hid hset1; replace hlk := Lib.hid hlk
              clear hgl hC
              go_wp2_with fail
              all_goals try (exfalso; omega)
              go_loopw [3, 6] (fun v ll wr2 => ∃ (a : Nat) (L : List En), ll = .int .i64 a ∧ Hid (a ≤ 100) ∧ Hid (OwnE enE wr2 w.heap.size v L) ∧ Hid (L ++ (if a = 0 then [] else [tk a]) = pSt out e) ∧ Hid (L.length ≤ out.length + 1) ∧ Hid (Below w.heap.size w wr2)) (fun _ ll _ => (intOf ll).toNat)
              case atStart => exact ⟨0, out.set m { l with n := l.n + e.n }, rfl, Lib.hid (by omega), Lib.hid (hset1.out.alloc _), Lib.hid (by rw [hps.out]; simp), Lib.hid (by simp), Lib.hid (Below.alloc (below_set hB.out hg1) (by simpa using hB.out.size) _)⟩
              case round =>
                obtain ⟨a, L, rfl, ha, hO3, hF, hL3, hB3⟩ := hrel
                by_cases h0 : 0 < a
                · have ha1 : (a : Int) ≤ 100 := by have := ha.out; omega
                  have ha2 : (0 : Int) < (a : Int) := by omega
                  have hL4 : Hid (L.length ≤ 10000000) := Lib.hid (by have := hL3.out; have := hfl.out; omega)
                  have hF2 := hF.out
                  rw [if_neg (by omega)] at hF2
                  replace hF2 := Lib.hid hF2
                  go_wp2_with (first | (at_builtin; refine append_rowE (E := enE) (ys := [tk a]) rfl rfl Try.underlying41 rfl (hO3.out.alloc _) rfl (rowAt_new1 _ _ _ (tk a) rfl rfl) rfl hL4.out (by simp) (by have := hB3.out.size; simp; omega) ?_))
                  intro v' w' G1 G2 _ _
                  have G3 := Lib.hid (hB3.out.trans ((Below.alloc (Below.refl w.heap.size _) hB3.out.size _).trans G2))
                  replace G1 := Lib.hid G1
                  have hl1 : Hid ((L ++ [tk a]).length ≤ out.length + 1) := Lib.hid (by
                    have h1 := congrArg List.length hF2.out
                    have h2 := pSt_len out e
                    omega)
                  clear G2 hO3 hB3
                  go_wp2
              
                  first
                    | exact ⟨⟨0, _, rfl, Lib.hid (by omega), G1, Lib.hid (by rw [if_pos rfl, List.append_nil]; exact hF2.out), hl1, G3⟩, by simp [intOf]; omega⟩
                    | exact ⟨⟨0, _, by go_num, Lib.hid (by omega), G1, Lib.hid (by rw [if_pos rfl, List.append_nil]; exact hF2.out), hl1, G3⟩, by simp [intOf]; omega⟩
                · obtain rfl : a = 0 := by omega
                  have hF2 := hF.out
                  rw [if_pos rfl, List.append_nil] at hF2
                  subst hF2
                  go_wp2
                  exact ⟨⟨i + 1, _, by go_num, hO3, hst, Lib.hid (by have h2 := pSt_len out e; have := hol.out; omega), Lib.hid (by omega), hB3⟩, by simp [intOf]; omega⟩
            · have hps : pSt out e = out.set m { l with n := 100 } ++ [tk (l.n + e.n - 100)] := by
                unfold pSt; rw [if_neg (by simpa using hk.out), hgl]; simp only; rw [if_pos hlk, if_neg hC, hm.out, Nat.add_sub_cancel]
              have hset2 : OwnE enE (wr.setCell ⟨g, m * 9 + 2, none⟩ (.int .i64 100)) w.heap.size (.slice (some ⟨g, 0, none⟩) out.length c') (out.set m { l with n := 100 }) :=
                OwnE.set (j := 2) hO.out hml (by decide) (by rw [← hl.out]; rfl)
              have hx1 : ¬ e.n ≤ 100 - l.n := by omega
              have hx2 : 100 - l.n < e.n := by omega
              replace hps := Lib.hid hps; replace hset2 := Lib.hid hset2; replace hlk := Lib.hid hlk
              clear hgl hC
              by_cases hy : l.n = 100
              · clear hw2 hx1 hx2
                go_wp2_with fail
                all_goals try (exfalso; omega)
                go_loopw [3, 6] (fun v ll wr2 => ∃ (a : Nat) (L : List En), ll = .int .i64 a ∧ Hid (a ≤ 100) ∧ Hid (OwnE enE wr2 w.heap.size v L) ∧ Hid (L ++ (if a = 0 then [] else [tk a]) = pSt out e) ∧ Hid (L.length ≤ out.length + 1) ∧ Hid (Below w.heap.size w wr2)) (fun _ ll _ => (intOf ll).toNat)
                case atStart => exact ⟨(l.n + e.n - 100).toNat, out.set m { l with n := 100 }, by rw [Int.toNat_of_nonneg (by omega)]; congr 1; omega, Lib.hid (by omega), Lib.hid (hset2.out.alloc _), Lib.hid (by rw [hps.out, if_neg (by omega), Int.toNat_of_nonneg (by omega)]), Lib.hid (by simp), Lib.hid (Below.alloc (below_set hB.out hg1) (by simpa using hB.out.size) _)⟩
                case round =>
                  obtain ⟨a, L, rfl, ha, hO3, hF, hL3, hB3⟩ := hrel
                  by_cases h0 : 0 < a
                  · have ha1 : (a : Int) ≤ 100 := by have := ha.out; omega
                    have ha2 : (0 : Int) < (a : Int) := by omega
                    have hL4 : Hid (L.length ≤ 10000000) := Lib.hid (by have := hL3.out; have := hfl.out; omega)
                    have hF2 := hF.out
                    rw [if_neg (by omega)] at hF2
                    replace hF2 := Lib.hid hF2
                    go_wp2_with (first | (at_builtin; refine append_rowE (E := enE) (ys := [tk a]) rfl rfl Try.underlying41 rfl (hO3.out.alloc _) rfl (rowAt_new1 _ _ _ (tk a) rfl rfl) rfl hL4.out (by simp) (by have := hB3.out.size; simp; omega) ?_))
                    intro v' w' G1 G2 _ _
                    have G3 := Lib.hid (hB3.out.trans ((Below.alloc (Below.refl w.heap.size _) hB3.out.size _).trans G2))
                    replace G1 := Lib.hid G1
                    have hl1 : Hid ((L ++ [tk a]).length ≤ out.length + 1) := Lib.hid (by
                      have h1 := congrArg List.length hF2.out
                      have h2 := pSt_len out e
                      omega)
                    clear G2 hO3 hB3
                    go_wp2
                
                    first
                      | exact ⟨⟨0, _, rfl, Lib.hid (by omega), G1, Lib.hid (by rw [if_pos rfl, List.append_nil]; exact hF2.out), hl1, G3⟩, by simp [intOf]; omega⟩
                      | exact ⟨⟨0, _, by go_num, Lib.hid (by omega), G1, Lib.hid (by rw [if_pos rfl, List.append_nil]; exact hF2.out), hl1, G3⟩, by simp [intOf]; omega⟩
                  · obtain rfl : a = 0 := by omega
                    have hF2 := hF.out
                    rw [if_pos rfl, List.append_nil] at hF2
                    subst hF2
                    go_wp2
                    exact ⟨⟨i + 1, _, by go_num, hO3, hst, Lib.hid (by have h2 := pSt_len out e; have := hol.out; omega), Lib.hid (by omega), hB3⟩, by simp [intOf]; omega⟩
              · have hw3 : wrap64 (l.n + (100 - l.n)) = 100 := by unfold wrap64; omega
                have hx3 : 0 < 100 - l.n := by omega
                have hx4 : 0 ≤ 100 - l.n := by omega
                go_wp2_with fail
                all_goals try (exfalso; omega)
                go_loopw [3, 6] (fun v ll wr2 => ∃ (a : Nat) (L : List En), ll = .int .i64 a ∧ Hid (a ≤ 100) ∧ Hid (OwnE enE wr2 w.heap.size v L) ∧ Hid (L ++ (if a = 0 then [] else [tk a]) = pSt out e) ∧ Hid (L.length ≤ out.length + 1) ∧ Hid (Below w.heap.size w wr2)) (fun _ ll _ => (intOf ll).toNat)
                case atStart => exact ⟨(l.n + e.n - 100).toNat, out.set m { l with n := 100 }, by rw [Int.toNat_of_nonneg (by omega)]; congr 1; omega, Lib.hid (by omega), Lib.hid (by rw [show l.n + (100 - l.n) = 100 by omega]; exact hset2.out.alloc _), Lib.hid (by rw [hps.out, if_neg (by omega), Int.toNat_of_nonneg (by omega)]), Lib.hid (by simp), Lib.hid (Below.alloc (below_set hB.out hg1) (by simpa using hB.out.size) _)⟩
                case round =>
                  obtain ⟨a, L, rfl, ha, hO3, hF, hL3, hB3⟩ := hrel
                  by_cases h0 : 0 < a
                  · have ha1 : (a : Int) ≤ 100 := by have := ha.out; omega
                    have ha2 : (0 : Int) < (a : Int) := by omega
                    have hL4 : Hid (L.length ≤ 10000000) := Lib.hid (by have := hL3.out; have := hfl.out; omega)
                    have hF2 := hF.out
                    rw [if_neg (by omega)] at hF2
                    replace hF2 := Lib.hid hF2
                    go_wp2_with (first | (at_builtin; refine append_rowE (E := enE) (ys := [tk a]) rfl rfl Try.underlying41 rfl (hO3.out.alloc _) rfl (rowAt_new1 _ _ _ (tk a) rfl rfl) rfl hL4.out (by simp) (by have := hB3.out.size; simp; omega) ?_))
                    intro v' w' G1 G2 _ _
                    have G3 := Lib.hid (hB3.out.trans ((Below.alloc (Below.refl w.heap.size _) hB3.out.size _).trans G2))
                    replace G1 := Lib.hid G1
                    have hl1 : Hid ((L ++ [tk a]).length ≤ out.length + 1) := Lib.hid (by
                      have h1 := congrArg List.length hF2.out
                      have h2 := pSt_len out e
                      omega)
                    clear G2 hO3 hB3
                    go_wp2
                
                    first
                      | exact ⟨⟨0, _, rfl, Lib.hid (by omega), G1, Lib.hid (by rw [if_pos rfl, List.append_nil]; exact hF2.out), hl1, G3⟩, by simp [intOf]; omega⟩
                      | exact ⟨⟨0, _, by go_num, Lib.hid (by omega), G1, Lib.hid (by rw [if_pos rfl, List.append_nil]; exact hF2.out), hl1, G3⟩, by simp [intOf]; omega⟩
                  · obtain rfl : a = 0 := by omega
                    have hF2 := hF.out
                    rw [if_pos rfl, List.append_nil] at hF2
                    subst hF2
                    go_wp2
                    exact ⟨⟨i + 1, _, by go_num, hO3, hst, Lib.hid (by have h2 := pSt_len out e; have := hol.out; omega), Lib.hid (by omega), hB3⟩, by simp [intOf]; omega⟩
          · have e3 : (l.kind == 0) = false := beq_eq_false_iff_ne.mpr hlk
            have hps : pSt out e = out ++ [tk e.n] := by
              unfold pSt; rw [if_neg (by simpa using hk.out), hgl]; simp only; rw [if_neg hlk]
            replace hps := Lib.hid hps
            clear hgl hlk
            go_wp2_with fail
            go_loopw [3, 6] (fun v ll wr2 => ∃ (a : Nat) (L : List En), ll = .int .i64 a ∧ Hid (a ≤ 100) ∧ Hid (OwnE enE wr2 w.heap.size v L) ∧ Hid (L ++ (if a = 0 then [] else [tk a]) = pSt out e) ∧ Hid (L.length ≤ out.length + 1) ∧ Hid (Below w.heap.size w wr2)) (fun _ ll _ => (intOf ll).toNat)
            case atStart => exact ⟨e.n.toNat, out, by rw [Int.toNat_of_nonneg (by omega)], Lib.hid (by omega), Lib.hid (hO.out.alloc _), Lib.hid (by rw [hps.out, if_neg (by omega), Int.toNat_of_nonneg (by omega)]), Lib.hid (by simp), Lib.hid ((Below.alloc hB.out hB.out.size _))⟩
            case round =>
              obtain ⟨a, L, rfl, ha, hO3, hF, hL3, hB3⟩ := hrel
              by_cases h0 : 0 < a
              · have ha1 : (a : Int) ≤ 100 := by have := ha.out; omega
                have ha2 : (0 : Int) < (a : Int) := by omega
                have hL4 : Hid (L.length ≤ 10000000) := Lib.hid (by have := hL3.out; have := hfl.out; omega)
                have hF2 := hF.out
                rw [if_neg (by omega)] at hF2
                replace hF2 := Lib.hid hF2
                go_wp2_with (first | (at_builtin; refine append_rowE (E := enE) (ys := [tk a]) rfl rfl Try.underlying41 rfl (hO3.out.alloc _) rfl (rowAt_new1 _ _ _ (tk a) rfl rfl) rfl hL4.out (by simp) (by have := hB3.out.size; simp; omega) ?_))
                intro v' w' G1 G2 _ _
                have G3 := Lib.hid (hB3.out.trans ((Below.alloc (Below.refl w.heap.size _) hB3.out.size _).trans G2))
                replace G1 := Lib.hid G1
                have hl1 : Hid ((L ++ [tk a]).length ≤ out.length + 1) := Lib.hid (by
                  have h1 := congrArg List.length hF2.out
                  have h2 := pSt_len out e
                  omega)
                clear G2 hO3 hB3
                go_wp2
            
                first
                  | exact ⟨⟨0, _, rfl, Lib.hid (by omega), G1, Lib.hid (by rw [if_pos rfl, List.append_nil]; exact hF2.out), hl1, G3⟩, by simp [intOf]; omega⟩
                  | exact ⟨⟨0, _, by go_num, Lib.hid (by omega), G1, Lib.hid (by rw [if_pos rfl, List.append_nil]; exact hF2.out), hl1, G3⟩, by simp [intOf]; omega⟩
              · obtain rfl : a = 0 := by omega
                have hF2 := hF.out
                rw [if_pos rfl, List.append_nil] at hF2
                subst hF2
                go_wp2
                exact ⟨⟨i + 1, _, by go_num, hO3, hst, Lib.hid (by have h2 := pSt_len out e; have := hol.out; omega), Lib.hid (by omega), hB3⟩, by simp [intOf]; omega⟩
        · have ho : out = [] := List.eq_nil_of_length_eq_zero (by omega)
          have hps : pSt out e = out ++ [tk e.n] := by
            unfold pSt; rw [if_neg (by simpa using hk.out), ho]; rfl
          replace hps := Lib.hid hps
          subst ho
          replace hO : Hid (OwnE enE wr w.heap.size (.slice A 0 c') []) := hO
          clear h0 hcc
          simp only [List.length_nil]
          go_wp2_with fail
          go_loopw [3, 6] (fun v ll wr2 => ∃ (a : Nat) (L : List En), ll = .int .i64 a ∧ Hid (a ≤ 100) ∧ Hid (OwnE enE wr2 w.heap.size v L) ∧ Hid (L ++ (if a = 0 then [] else [tk a]) = pSt ([] : List En) e) ∧ Hid (L.length ≤ ([] : List En).length + 1) ∧ Hid (Below w.heap.size w wr2)) (fun _ ll _ => (intOf ll).toNat)
          case atStart => exact ⟨e.n.toNat, ([] : List En), by rw [Int.toNat_of_nonneg (by omega)], Lib.hid (by omega), Lib.hid (hO.out.alloc _), Lib.hid (by rw [hps.out, if_neg (by omega), Int.toNat_of_nonneg (by omega)]), Lib.hid (by simp), Lib.hid ((Below.alloc hB.out hB.out.size _))⟩
          case round =>
            obtain ⟨a, L, rfl, ha, hO3, hF, hL3, hB3⟩ := hrel
            by_cases h0 : 0 < a
            · have ha1 : (a : Int) ≤ 100 := by have := ha.out; omega
              have ha2 : (0 : Int) < (a : Int) := by omega
              have hL4 : Hid (L.length ≤ 10000000) := Lib.hid (by have := hL3.out; have := hfl.out; omega)
              have hF2 := hF.out
              rw [if_neg (by omega)] at hF2
              replace hF2 := Lib.hid hF2
              go_wp2_with (first | (at_builtin; refine append_rowE (E := enE) (ys := [tk a]) rfl rfl Try.underlying41 rfl (hO3.out.alloc _) rfl (rowAt_new1 _ _ _ (tk a) rfl rfl) rfl hL4.out (by simp) (by have := hB3.out.size; simp; omega) ?_))
              intro v' w' G1 G2 _ _
              have G3 := Lib.hid (hB3.out.trans ((Below.alloc (Below.refl w.heap.size _) hB3.out.size _).trans G2))
              replace G1 := Lib.hid G1
              have hl1 : Hid ((L ++ [tk a]).length ≤ ([] : List En).length + 1) := Lib.hid (by
                have h1 := congrArg List.length hF2.out
                have h2 := pSt_len ([] : List En) e
                omega)
              clear G2 hO3 hB3
              go_wp2
          
              first
                | exact ⟨⟨0, _, rfl, Lib.hid (by omega), G1, Lib.hid (by rw [if_pos rfl, List.append_nil]; exact hF2.out), hl1, G3⟩, by simp [intOf]; omega⟩
                | exact ⟨⟨0, _, by go_num, Lib.hid (by omega), G1, Lib.hid (by rw [if_pos rfl, List.append_nil]; exact hF2.out), hl1, G3⟩, by simp [intOf]; omega⟩
            · obtain rfl : a = 0 := by omega
              have hF2 := hF.out
              rw [if_pos rfl, List.append_nil] at hF2
              subst hF2
              go_wp2
              exact ⟨⟨i + 1, _, by go_num, hO3, hst, Lib.hid (by have h2 := pSt_len ([] : List En) e; have := hol.out; omega), Lib.hid (by omega), hB3⟩, by simp [intOf]; omega⟩
      · have e1 : (e.kind == 0) = false := beq_eq_false_iff_ne.mpr hk
        have e2 : (e.kind != 0) = true := bne_iff_ne.mpr hk
        have hps : pSt out e = out ++ [e] := by unfold pSt; rw [if_pos hk]
        rw [hps] at hst
        clear hk hps
        go_wp2_with (first | (at_builtin; refine append_rowE (E := enE) (ys := [e]) rfl rfl Try.underlying41 rfl ((hO.out.alloc _).alloc _) rfl (rowAt_new1 _ _ _ e (by simp) rfl) rfl (Nat.le_trans hfl.out (by decide)) (by simp) (by have := hB.out.size; simp; omega) ?_))
        intro v' w' G1 G2 _ _
        have G3 := Lib.hid (hB.out.trans (((Below.alloc (Below.alloc (Below.refl w.heap.size wr) hB.out.size _) (by have := hB.out.size; simp; omega) _)).trans G2))
        replace G1 := Lib.hid G1
        clear G2 hO hB
        go_wp2
        exact ⟨⟨i + 1, _, by go_num, G1, hst, Lib.hid (by have := hol.out; simp; omega), Lib.hid (by omega), G3⟩, by simp [intOf]; omega⟩
    · have he : xs.drop i = [] := List.drop_of_length_le (by omega)
      rw [he] at hS
      have hf := hS.out.finish
      subst hf
      clear he
      go_wp2
      go_ret
      exact ⟨_, rfl, hO.out, hB.out⟩
end Go.Proofs.Ytamnibfaoikdbaa
