/- SplitWeaves. -/
import Derived.Test.YtamnibfaoikdbaaTe
namespace Go.Proofs.Ytamnibfaoikdbaa
open Go.RowKit
set_option linter.unusedVariables false
set_option linter.unusedSimpArgs false
set_option maxRecDepth 100000

def boE : Enc Bool where
  t := 4
  sz := 1
  f := fun x => [.bool x]
  z := .bool false
  bytes := 1
  len := fun x => rfl
  one := fun x v h => by simp at h; subst h; rfl
  info := by kernel_rfl
  zs := rfl
  pos := by decide
  small := by decide

theorem weave_back (p : En → Bool) : ∀ (l : List En), weaveGo (l.map p) (l.filter p) (l.filter (fun e => !p e)) = l
  | [] => rfl
  | e :: t => by
    have ih := weave_back p t
    cases hp : p e
    · rw [List.map_cons, List.filter_cons_of_neg (by simp [hp]), List.filter_cons_of_pos (by simp [hp]), hp]
      have : weaveGo (false :: t.map p) (t.filter p) (e :: t.filter (fun e => !p e)) = e :: weaveGo (t.map p) (t.filter p) (t.filter (fun e => !p e)) := by cases t.filter p <;> simp [weaveGo]
      rw [this, ih]
    · rw [List.map_cons, List.filter_cons_of_pos (by simp [hp]), List.filter_cons_of_neg (by simp [hp]), hp]
      rw [show weaveGo (true :: t.map p) (e :: t.filter p) (t.filter (fun e => !p e)) = e :: weaveGo (t.map p) (t.filter p) (t.filter (fun e => !p e)) by simp [weaveGo], ih]

theorem drop_cons {α : Type} {W : List α} {k : Nat} {x : α} {t : List α} (h : W.drop k = x :: t) : ∃ hk : k < W.length, W[k] = x ∧ W.drop (k + 1) = t := by
  have hk : k < W.length := by
    apply Classical.byContradiction
    intro hh
    rw [List.drop_of_length_le (by omega)] at h; cases h
  rw [List.drop_eq_getElem_cons hk] at h
  injection h with h1 h2
  exact ⟨hk, h1, h2⟩

theorem same15_n {w : World} {A B : Option Addr} {n m ca cb : Nat} {xs ys : List En} (hn : n = xs.length) (hm : m = ys.length) (hx : RowAt En.cells 9 w A xs) (hy : RowAt En.cells 9 w B ys) (h1 : xs.length ≤ 100000) (h2 : ys.length ≤ 100000) :
    Calls Try.prog 26 #[.slice A n ca, .slice B m cb] w fun e w' => e = .returned (.bool (decide (xs = ys))) ∧ Below w.heap.size w w' := by
  subst hn; subst hm; exact same15_c hx hy h1 h2
theorem weave_n {w : World} {A B T : Option Addr} {n m k ca cb ct : Nat} {al bl : List En} {ts : List Bool} (hn : n = al.length) (hm : m = bl.length) (hk : k = ts.length) (hra : RowAt En.cells 9 w A al) (hrb : RowAt En.cells 9 w B bl) (hrt : RowAt (fun x : Bool => [Value.bool x]) 1 w T ts)
    (hca : al.length ≤ ca) (hcb : bl.length ≤ cb) (hla : al.length ≤ 10000) (hlb : bl.length ≤ 10000) (hlt : ts.length ≤ 10000) :
    Calls Try.prog 31 #[.slice A n ca, .slice B m cb, .slice T k ct] w fun r w' => ∃ v, r = .returned v ∧ OwnE enE w' w.heap.size v (weaveGo ts al bl) ∧ Below w.heap.size w w' := by
  subst hn; subst hm; subst hk; exact weave_c hra hrb hrt hca hcb hla hlb hlt
/-- A slice expression's rest. -/
theorem rowAt_rest {w : World} {A : Option Addr} {xs : List En} (h : RowAt enE.f enE.sz w A xs) {k c : Nat} (hk : k ≤ xs.length) (hc : xs.length ≤ c) : RowAt enE.f enE.sz w (if c = k then A else A.map (fun a => a.add (k * 9))) (xs.drop k) := by
  by_cases hck : c = k
  · have : xs.drop k = [] := List.drop_of_length_le (by omega)
    rw [this]; exact rowAt_nil w _
  · rw [if_neg hck]
    cases A with
    | none =>
      have : xs = [] := by
        cases xs with
        | nil => rfl
        | cons y t => obtain ⟨_, _, e, _⟩ := h 0 (by simp); cases e
      subst this
      simp only [List.drop_nil]; exact rowAt_nil w _
    | some a =>
      by_cases hx : xs.drop k = []
      · rw [hx]; exact rowAt_nil w _
      · have h0 : 0 < xs.length := by
          rcases Nat.eq_zero_or_pos xs.length with h0 | h0
          · exact absurd (by rw [List.eq_nil_of_length_eq_zero h0]; simp) hx
          · exact h0
        obtain ⟨b, off, e, _⟩ := h 0 h0
        injection e with e
        subst e
        have := rowAt_drop (E := enE) h k
        have e2 : (⟨b, off, none⟩ : Addr).add (k * 9) = ⟨b, off + k * 9, none⟩ := by unfold Addr.add; split <;> simp_all
        simp only [Option.map_some, e2]
        exact this

set_option maxHeartbeats 8000000 in
theorem weaves_walk (A : Option Addr) (c : Nat) (al : List En) (B : Option Addr) (cb : Nat) (bl : List En) (T : Option Addr) (ct : Nat) (ts : List Bool) (who : Int) (w : World) (hra : RowAt En.cells 9 w A al) (hrb : RowAt En.cells 9 w B bl) (hrt : RowAt (fun x : Bool => [Value.bool x]) 1 w T ts)
    (hca : al.length ≤ c) (hcb : bl.length ≤ cb) (hza : al.length * 72 ≤ 140737488351232) (hzb : bl.length * 72 ≤ 140737488351232) (hzt : ts.length * 1 ≤ 140737488351232) :
    Calls Try.prog 7 #[.slice A al.length c, .slice B bl.length cb, .slice T ts.length ct, .int .i64 who] w fun r w' => r = .returned (.bool true) ∧ Below w.heap.size w w' := by
  have HA := Lib.hid hra; have HB := Lib.hid hrb; have HT := Lib.hid hrt
  have hla : Hid (al.length ≤ 10000000000000) := Lib.hid (by omega)
  have hlb : Hid (bl.length ≤ 10000000000000) := Lib.hid (by omega)
  have hzt' : Hid (ts.length ≤ 140737488351232) := Lib.hid (by omega)
  replace hca := Lib.hid hca; replace hcb := Lib.hid hcb
  clear hra hrb hrt hza hzb hzt
  go_enter Try.func7, Try.ntmps7
  go_wp2_with fail
  refine (alive18_c w).mono ?_
  rintro r w1 ⟨rfl, B1⟩
  replace HA := Lib.hid (HA.out.below B1); replace HB := Lib.hid (HB.out.below B1); replace HT := Lib.hid (HT.out.below B1)
  replace B1 := Lib.hid B1
  go_wp2_with fail
  refine (right18_c HA.out hla.out).mono ?_
  rintro r w2 ⟨rfl, F2⟩
  replace HA := Lib.hid (HA.out.below F2); replace HB := Lib.hid (HB.out.below F2); replace HT := Lib.hid (HT.out.below F2)
  have B2 := Lib.hid (B1.out.trans (F2.mono B1.out.size))
  clear F2
  cases hR : (decide (al.length ≤ 60) && al.all rightE)
  · go_wp2
    go_ret
    exact ⟨rfl, B2.out⟩
  · have h60 : al.length ≤ 60 := by simp at hR; exact hR.1
    have hall : ∀ e ∈ al, rightE e = true := by simp at hR; exact hR.2
    have hok := Lib.hid (right_okT hall)
    replace h60 := Lib.hid h60; replace hR := Lib.hid hR
    clear hall
    go_wp2_with fail
    refine (right18_c HB.out hlb.out).mono ?_
    rintro r w3 ⟨rfl, F3⟩
    replace HA := Lib.hid (HA.out.below F3); replace HB := Lib.hid (HB.out.below F3); replace HT := Lib.hid (HT.out.below F3)
    have B3 := Lib.hid (B2.out.trans (F3.mono B2.out.size))
    clear F3
    cases hS : (decide (bl.length ≤ 60) && bl.all rightE)
    · go_wp2
      go_ret
      exact ⟨rfl, B3.out⟩
    · have g60 : bl.length ≤ 60 := by simp at hS; exact hS.1
      replace g60 := Lib.hid g60; replace hS := Lib.hid hS
      by_cases ht : 120 < ts.length
      · have e1 : decide ((120 : Int) < (ts.length : Int)) = true := by simp; omega
        replace ht := Lib.hid ht
        go_wp2
        go_ret
        exact ⟨rfl, B3.out⟩
      · have e1 : decide ((120 : Int) < (ts.length : Int)) = false := by simp; omega
        have ht' : ts.length ≤ 10000 := by omega
        replace ht := Lib.hid ht; replace ht' := Lib.hid ht'
        go_wp2_with fail
        refine (weave_c HA.out HB.out HT.out hca.out hcb.out (Nat.le_trans h60.out (by decide)) (Nat.le_trans g60.out (by decide)) ht'.out).mono ?_
        rintro r w4 ⟨v4, rfl, P4, F4⟩
        replace HA := Lib.hid (HA.out.below F4); replace HB := Lib.hid (HB.out.below F4); replace HT := Lib.hid (HT.out.below F4)
        have B4 := Lib.hid (B3.out.trans (F4.mono B3.out.size))
        obtain ⟨A4, c4, rfl, hc4⟩ := P4.slice
        have R4 := Lib.hid P4.row.1
        clear P4 F4
        have hwl := weave_len ts al bl
        have e2 : ((weaveGo ts al bl).length : Int) = (al.length : Int) + (bl.length : Int) := by omega
        have e3 : (((weaveGo ts al bl).length : Int) != (al.length : Int) + (bl.length : Int)) = false := by rw [e2]; simp
        replace hc4 := Lib.hid hc4; replace hwl := Lib.hid hwl; replace e2 := Lib.hid e2
        have hx1 : (al.length : Int) ≤ 60 := by have := h60.out; omega
        have hx2 : (bl.length : Int) ≤ 60 := by have := g60.out; omega
        go_wp2_with fail
        go_loopw [10, 11, 12, 47] (fun a b k ii wr => ∃ n i j : Nat, ii = .int .i64 n ∧ a = .int .i64 i ∧ b = .int .i64 j ∧ k = .int .i64 ((i + j : Nat) : Int) ∧ Hid ((weaveGo ts al bl).drop (i + j) = weaveGo (ts.drop n) (al.drop i) (bl.drop j)) ∧ Hid (i ≤ al.length) ∧ Hid (j ≤ bl.length) ∧ Hid (n ≤ ts.length) ∧ Hid (Below w4.heap.size w4 wr)) (fun _ _ _ ii _ => ts.length - (intOf ii).toNat)
        case atStart => exact ⟨0, 0, 0, rfl, rfl, rfl, rfl, Lib.hid (by simp), Lib.hid (Nat.zero_le _), Lib.hid (Nat.zero_le _), Lib.hid (Nat.zero_le _), Lib.hid (Below.refl _ _)⟩
        case round =>
          obtain ⟨n, i, j, rfl, rfl, rfl, rfl, hW, hi, hj, hn, hB5⟩ := hrel
          by_cases hlt : n < ts.length
          · have hn120 : n < 120 := by have := ht.out; omega
            obtain ⟨tb, toff, rfl, htl, htc⟩ := HT.out n hlt
            have t0 := htc 0 _ rfl
            have hd : ts.drop n = ts[n] :: ts.drop (n + 1) := List.drop_eq_getElem_cons hlt
            generalize ts[n] = f at *
            rw [Nat.mul_one, Nat.add_zero, ← hB5.out.cell (p := ⟨tb, _, none⟩) htl] at t0
            clear htc
            cases f with
            | true =>
              by_cases hil : i < al.length
              · have hd2 : al.drop i = al[i] :: al.drop (i + 1) := List.drop_eq_getElem_cons hil
                have hW2 := hW.out
                rw [hd] at hW2
                rw [show weaveGo (true :: ts.drop (n + 1)) (al.drop i) (bl.drop j) = al[i] :: weaveGo (ts.drop (n + 1)) (al.drop (i + 1)) (bl.drop j) by rw [hd2]; simp [weaveGo]] at hW2
                obtain ⟨hkW, hk1, hk2⟩ := drop_cons hW2
                obtain ⟨b, off, rfl, hbl, c0, c1, c2, c3, c4, c5, c6, c7, c8⟩ := HA.out.en hil
                obtain ⟨b', off', rfl, hbl', d0, d1, d2, d3, d4, d5, d6, d7, d8⟩ := RowAt.en R4.out hkW
                rw [hk1] at d0 d1 d2 d3 d4 d5 d6 d7 d8
                rw [← hB5.out.cell (p := ⟨b, _, none⟩) hbl] at c0 c1 c2 c3 c4 c5 c6 c7 c8
                rw [← hB5.out.cell (p := ⟨b', _, none⟩) hbl'] at d0 d1 d2 d3 d4 d5 d6 d7 d8
                obtain ⟨e, he⟩ : ∃ e, e = al[i] := ⟨_, rfl⟩
                rw [← he] at c0 c1 c2 c3 c4 c5 c6 c7 c8 d0 d1 d2 d3 d4 d5 d6 d7 d8
                have heq := eq_enT (rfl : e = e)
                have il1 : (i : Int) < (al.length : Int) := by omega
                have il2 : ((i + j : Nat) : Int) < ((weaveGo ts al bl).length : Int) := by omega
                have il3 : (i : Int) + (j : Int) < ((weaveGo ts al bl).length : Int) := by omega
                have i60 : i ≤ 60 := by have := hi.out; have := h60.out; omega
                have j60 : j ≤ 60 := by have := hj.out; have := g60.out; omega
                replace hk2 := Lib.hid hk2; replace he := Lib.hid he
                clear hd2 hW2 hk1 hkW hbl hbl'
                go_wp2_with fail
                go_quiet (fail)
                go_wp2
                exact ⟨⟨n + 1, i + 1, j, by go_num, by go_num, by go_num, by first | rfl | (congr 1; omega), Lib.hid (by first | exact hk2.out | (have := hk2.out; rw [show i + (j + 1) = i + j + 1 by omega]; exact this) | (have := hk2.out; rw [show i + 1 + j = i + j + 1 by omega]; exact this)), (Lib.hid (by omega)), hj, Lib.hid (by omega), Lib.hid (hB5.out.drewN _)⟩, by simp [intOf]; omega⟩
              · have hnil : al.drop i = [] := List.drop_of_length_le (by omega)
                have hW2 := hW.out
                rw [hd, show weaveGo (true :: ts.drop (n + 1)) (al.drop i) (bl.drop j) = weaveGo (ts.drop (n + 1)) (al.drop i) (bl.drop j) by rw [hnil]; simp [weaveGo]] at hW2
                replace hW2 := Lib.hid hW2
                have il1 : ¬ (i : Int) < (al.length : Int) := by omega
                clear hnil
                go_wp2_with fail
                exact ⟨⟨n + 1, i, j, by go_num, rfl, rfl, rfl, hW2, hi, hj, Lib.hid (by omega), hB5⟩, by simp [intOf]; omega⟩
            | false =>
              by_cases hil : j < bl.length
              · have hd2 : bl.drop j = bl[j] :: bl.drop (j + 1) := List.drop_eq_getElem_cons hil
                have hW2 := hW.out
                rw [hd] at hW2
                rw [show weaveGo (false :: ts.drop (n + 1)) (al.drop i) (bl.drop j) = bl[j] :: weaveGo (ts.drop (n + 1)) (al.drop i) (bl.drop (j + 1)) by rw [hd2]; cases al.drop i <;> simp [weaveGo]] at hW2
                obtain ⟨hkW, hk1, hk2⟩ := drop_cons hW2
                obtain ⟨b, off, rfl, hbl, c0, c1, c2, c3, c4, c5, c6, c7, c8⟩ := HB.out.en hil
                obtain ⟨b', off', rfl, hbl', d0, d1, d2, d3, d4, d5, d6, d7, d8⟩ := RowAt.en R4.out hkW
                rw [hk1] at d0 d1 d2 d3 d4 d5 d6 d7 d8
                rw [← hB5.out.cell (p := ⟨b, _, none⟩) hbl] at c0 c1 c2 c3 c4 c5 c6 c7 c8
                rw [← hB5.out.cell (p := ⟨b', _, none⟩) hbl'] at d0 d1 d2 d3 d4 d5 d6 d7 d8
                obtain ⟨e, he⟩ : ∃ e, e = bl[j] := ⟨_, rfl⟩
                rw [← he] at c0 c1 c2 c3 c4 c5 c6 c7 c8 d0 d1 d2 d3 d4 d5 d6 d7 d8
                have heq := eq_enT (rfl : e = e)
                have il1 : (j : Int) < (bl.length : Int) := by omega
                have il2 : ((i + j : Nat) : Int) < ((weaveGo ts al bl).length : Int) := by omega
                have il3 : (i : Int) + (j : Int) < ((weaveGo ts al bl).length : Int) := by omega
                have i60 : i ≤ 60 := by have := hi.out; have := h60.out; omega
                have j60 : j ≤ 60 := by have := hj.out; have := g60.out; omega
                replace hk2 := Lib.hid hk2; replace he := Lib.hid he
                clear hd2 hW2 hk1 hkW hbl hbl'
                go_wp2_with fail
                go_quiet (fail)
                go_wp2
                exact ⟨⟨n + 1, i, j + 1, by go_num, by go_num, by go_num, by first | rfl | (congr 1; omega), Lib.hid (by first | exact hk2.out | (have := hk2.out; rw [show i + (j + 1) = i + j + 1 by omega]; exact this) | (have := hk2.out; rw [show i + 1 + j = i + j + 1 by omega]; exact this)), hi, (Lib.hid (by omega)), Lib.hid (by omega), Lib.hid (hB5.out.drewN _)⟩, by simp [intOf]; omega⟩
              · have hnil : bl.drop j = [] := List.drop_of_length_le (by omega)
                have hW2 := hW.out
                rw [hd, show weaveGo (false :: ts.drop (n + 1)) (al.drop i) (bl.drop j) = weaveGo (ts.drop (n + 1)) (al.drop i) (bl.drop j) by rw [hnil]; cases al.drop i <;> simp [weaveGo]] at hW2
                replace hW2 := Lib.hid hW2
                have il1 : ¬ (j : Int) < (bl.length : Int) := by omega
                clear hnil
                go_wp2_with fail
                exact ⟨⟨n + 1, i, j, by go_num, rfl, rfl, rfl, hW2, hi, hj, Lib.hid (by omega), hB5⟩, by simp [intOf]; omega⟩
          · have hW2 := hW.out
            rw [List.drop_of_length_le (show ts.length ≤ n by omega), show weaveGo [] (al.drop i) (bl.drop j) = al.drop i ++ bl.drop j by simp [weaveGo]] at hW2
            replace hW2 := Lib.hid hW2
            have f1 : (i : Int) ≤ (al.length : Int) := by have := hi.out; omega
            have f2 : (j : Int) ≤ (bl.length : Int) := by have := hj.out; omega
            have hkl : i + j ≤ (weaveGo ts al bl).length := by have := hi.out; have := hj.out; have := hwl.out; omega
            have i0 : (0 : Int) ≤ (i : Int) := by omega
            have j0 : (0 : Int) ≤ (j : Int) := by omega
            generalize hij : i + j = k at *
            replace hij := Lib.hid hij
            have k0 : (0 : Int) ≤ (k : Int) := by omega
            have f3 : (k : Int) ≤ ((weaveGo ts al bl).length : Int) := by omega
            have c1 : (al.length : Int) ≤ (c : Int) := by have := hca.out; omega
            have c2 : (bl.length : Int) ≤ (cb : Int) := by have := hcb.out; omega
            have c3 : ((weaveGo ts al bl).length : Int) ≤ (c4 : Int) := by have := hc4.out; omega
            have O := Lib.hid (show OwnE enE (wr.alloc (.cells #[] 47)) wr.heap.size (.slice (some ⟨wr.heap.size, 0, none⟩) 0 0) [] from OwnE.lit (E := enE) wr wr.heap.size (Nat.le_refl _) [] #[] rfl (by simp))
            have hB5' := Lib.hid (Below.refl wr.heap.size wr)
            have S1 := Lib.hid (rowAt_rest (HA.out.below hB5.out) hi.out hca.out)
            have S2 := Lib.hid (rowAt_rest (HB.out.below hB5.out) hj.out hcb.out)
            have S3 := Lib.hid (rowAt_rest (R4.out.below hB5.out) hkl hc4.out)
            obtain ⟨Q1, hQ1⟩ : ∃ Q, (if c = i then A else Option.map (fun a => a.add (i * 9)) A) = Q := ⟨_, rfl⟩
            obtain ⟨Q2, hQ2⟩ : ∃ Q, (if cb = j then B else Option.map (fun a => a.add (j * 9)) B) = Q := ⟨_, rfl⟩
            obtain ⟨Q3, hQ3⟩ : ∃ Q, (if c4 = k then A4 else Option.map (fun a => a.add (k * 9)) A4) = Q := ⟨_, rfl⟩
            rw [hQ1] at S1
            rw [hQ2] at S2
            rw [hQ3] at S3
            have l1 : Hid ((al.drop i).length ≤ 60) := Lib.hid (by rw [List.length_drop]; have := h60.out; omega)
            have l2 : Hid ((bl.drop j).length ≤ 60) := Lib.hid (by rw [List.length_drop]; have := g60.out; omega)
            have l3 : Hid ((al.drop i ++ bl.drop j).length ≤ 120) := Lib.hid (by rw [List.length_append]; have := l1.out; have := l2.out; omega)
            go_wp2_with fail
            go_region_held3 (fun w' => w'.tape = wr.tape) (first | rfl | exact hT7 | exact hT6 | exact hT5) (first
              | (refine step_append_rowE (E := enE) (xs := []) (ys := al.drop i) rfl rfl Try.underlying41 rfl O.out rfl ?_ (by simp) (by simp) (Nat.le_trans l1.out (by decide)) (by simp) ?_; exact rowAt_alloc (E := enE) S1.out _; intro v5 w5 G1 G2 G3 G4; have HX5 : Below wr.heap.size wr w5 := (by first | exact ((Below.alloc hB5'.out (Nat.le_refl _) _).drewN 1).trans G2 | exact (Below.alloc hB5'.out (Nat.le_refl _) _).trans G2); have hT5 : w5.tape = wr.tape := HX5.tape)
              | (refine step_append_rowE (E := enE) (xs := [] ++ al.drop i) (ys := bl.drop j) rfl rfl Try.underlying41 rfl G1 rfl ?_ (by simp) (Nat.le_trans l1.out (by decide)) (Nat.le_trans l2.out (by decide)) HX5.size ?_; exact S2.out.below HX5; intro v6 w6 P1 P2 P3 P4; have HX6 : Below wr.heap.size wr w6 := HX5.trans P2; have hT6 : w6.tape = wr.tape := HX6.tape; obtain ⟨A6, c6, rfl, -⟩ := P1.slice)
              | (go_at_call 26; refine (same15_n (xs := (weaveGo ts al bl).drop k) (ys := ([] ++ al.drop i) ++ bl.drop j) (by rw [List.length_drop]) (by first | rfl | simp) ?_ ?_ ?_ ?_).mono ?_; exact S3.out.below HX6; exact P1.row.1; rw [hW2.out]; exact Nat.le_trans l3.out (by decide); exact Nat.le_trans l3.out (by decide); rintro x w7 ⟨rfl, F7⟩; have HX7 : Below wr.heap.size wr w7 := HX6.trans (F7.mono HX6.size); have hT7 : w7.tape = wr.tape := HX7.tape; rw [decide_eq_true (show (weaveGo ts al bl).drop k = ([] ++ al.drop i) ++ bl.drop j from hW2.out)])
              | fail)
            all_goals
              have HX8 := Lib.hid HX7
              clear G1 G2 G3 G4 P1 P2 P3 P4 HX5 HX6 HX7 hT5 hT6 hT7 F7
              go_wp2
            have HA7 := Lib.hid ((HA.out.below hB5.out).below HX8.out)
            have B7 := Lib.hid ((B4.out.trans (hB5.out.mono B4.out.size)).trans (HX8.out.mono (Nat.le_trans B4.out.size hB5.out.size)))
            clear hQ1 hQ2 hQ3 S1 S2 S3 hW hW2 hB5 hB5' R4 HA HB HT B4 HX8 f1 f2 f3 k0 i0 j0 c1 c2 c3 hi hj hn hij
            clear O l1 l2 l3
            go_loopw [15, 110] (fun v ii wr2 => ∃ m : Nat, ii = .int .i64 m ∧ Hid (OwnE boE wr2 w7.heap.size v ((al.take m).map (seesB who))) ∧ Hid (m ≤ al.length) ∧ Hid (Below w7.heap.size w7 wr2)) (fun _ ii _ => al.length - (intOf ii).toNat)
            case atStart => exact ⟨0, rfl, Lib.hid (show OwnE boE (w7.alloc (.cells #[] 4)) w7.heap.size (.slice (some ⟨w7.heap.size, 0, none⟩) 0 0) [] from OwnE.lit (E := boE) w7 w7.heap.size (Nat.le_refl _) [] #[] rfl (by simp)), Lib.hid (Nat.zero_le _), Lib.hid (Below.alloc (Below.refl _ _) (Nat.le_refl _) _)⟩
            case round =>
              obtain ⟨m, rfl, hO, hm, hB8⟩ := hrel
              by_cases hlt : m < al.length
              · have hm60 : m < 60 := by have := h60.out; omega
                obtain ⟨b, off, rfl, hbl, c0, c1, c2, c3, c4, c5, c6, c7, c8⟩ := HA7.out.en hlt
                rw [← hB8.out.cell (p := ⟨b, _, none⟩) hbl] at c0 c1 c2 c3 c4 c5 c6 c7 c8
                obtain ⟨e, he⟩ : ∃ e, e = al[m] := ⟨_, rfl⟩
                rw [← he] at c0 c1 c2 c3 c4 c5 c6 c7 c8
                have hf : (al.take (m + 1)).map (seesB who) = (al.take m).map (seesB who) ++ [seesB who e] := by rw [take_snoc hlt, List.map_append, he]; rfl
                have hle : ((al.take m).map (seesB who)).length ≤ 10000000 := by simp; omega
                replace hf := Lib.hid hf; replace he := Lib.hid he; replace hle := Lib.hid hle
                by_cases k0 : e.kind = 0
                · have e5 : (e.kind == 0) = true := beq_iff_eq.mpr k0
                  have hse : seesB who e = true := by simp [seesB, k0]
                  replace k0 := Lib.hid k0
                  go_wp2_with (first | (at_builtin; refine append_rowE (E := boE) (ys := [true]) rfl rfl Try.underlying53 rfl ((hO.out.alloc _).alloc _) rfl (rowAt_new1 (E := boE) _ _ _ (true) (by simp) rfl) rfl hle.out (by simp) (by have := hB8.out.size; simp; omega) ?_))
                  intro v' w' G1 G2 _ _
                  have G3 := Lib.hid (hB8.out.trans ((Below.alloc (Below.alloc (Below.refl w7.heap.size wr) hB8.out.size _) (by have := hB8.out.size; simp; omega) _).trans G2))
                  have hf2 := hf.out
                  rw [hse] at hf2
                  rw [List.map_take, List.map_take] at hf2
                  rw [← hf2, ← List.map_take] at G1
                  replace G1 := Lib.hid G1
                  clear G2 hO hB8 hf2
                  go_wp2
                  exact ⟨⟨m + 1, by go_num, G1, Lib.hid (by omega), G3⟩, by simp [intOf]; omega⟩
                · have e5 : (e.kind == 0) = false := beq_eq_false_iff_ne.mpr k0
                  have hse : seesB who e = (e.who == who) := by simp [seesB, k0]
                  replace k0 := Lib.hid k0
                  go_wp2_with (first | (at_builtin; refine append_rowE (E := boE) (ys := [e.who == who]) rfl rfl Try.underlying53 rfl ((hO.out.alloc _).alloc _) rfl (rowAt_new1 (E := boE) _ _ _ (e.who == who) (by simp) rfl) rfl hle.out (by simp) (by have := hB8.out.size; simp; omega) ?_))
                  intro v' w' G1 G2 _ _
                  have G3 := Lib.hid (hB8.out.trans ((Below.alloc (Below.alloc (Below.refl w7.heap.size wr) hB8.out.size _) (by have := hB8.out.size; simp; omega) _).trans G2))
                  have hf2 := hf.out
                  rw [hse] at hf2
                  rw [List.map_take, List.map_take] at hf2
                  rw [← hf2, ← List.map_take] at G1
                  replace G1 := Lib.hid G1
                  clear G2 hO hB8 hf2
                  go_wp2
                  exact ⟨⟨m + 1, by go_num, G1, Lib.hid (by omega), G3⟩, by simp [intOf]; omega⟩
              · have he : al.take m = al := List.take_of_length_le (by omega)
                rw [he] at hO
                clear he
                obtain ⟨Ab, cbk, rfl, _⟩ := hO.out.slice
                have RB := Lib.hid hO.out.row.1
                have HA8 := Lib.hid (HA7.out.below hB8.out)
                have B8 := Lib.hid (B7.out.trans (hB8.out.mono B7.out.size))
                have hbl60 : Hid ((al.map (seesB who)).length ≤ 10000) := Lib.hid (by simp; have := h60.out; omega)
                have h60' := Lib.hid (Nat.le_trans h60.out (show 60 ≤ 100000 by decide))
                clear hO hB8 HA7 B7
                go_wp2_with fail
                refine (project_c HA8.out h60'.out who).mono ?_
                rintro r w9 ⟨v9, rfl, P9, F9⟩
                have HA9 := Lib.hid (HA8.out.below F9)
                have B9 := Lib.hid (B8.out.trans (F9.mono B8.out.size))
                replace RB := Lib.hid (RB.out.below F9)
                obtain ⟨A9, k9, rfl, hk9⟩ := P9.slice
                have R9 := Lib.hid P9.row.1
                replace hk9 := Lib.hid hk9
                clear P9 F9 HA8 B8
                go_wp2_with fail
                refine (others_c HA9.out h60'.out who).mono ?_
                rintro r w10 ⟨v10, rfl, P10, F10⟩
                have HA10 := Lib.hid (HA9.out.below F10)
                have B10 := Lib.hid (B9.out.trans (F10.mono B9.out.size))
                replace RB := Lib.hid (RB.out.below F10)
                replace R9 := Lib.hid (R9.out.below F10)
                obtain ⟨A10, k10, rfl, hk10⟩ := P10.slice
                have R10 := Lib.hid P10.row.1
                replace hk10 := Lib.hid hk10
                have u1 : (al.filter (seesB who)).length ≤ 10000 := Nat.le_trans (List.length_filter_le _ _) (Nat.le_trans h60.out (by decide))
                have u2 : (al.filter (blindB who)).length ≤ 10000 := Nat.le_trans (List.length_filter_le _ _) (Nat.le_trans h60.out (by decide))
                replace u1 := Lib.hid u1; replace u2 := Lib.hid u2
                clear P10 F10 HA9 B9
                go_wp2_with fail
                refine (weave_n (ts := al.map (seesB who)) rfl rfl (by first | rfl | simp) R9.out R10.out RB.out hk9.out hk10.out u1.out u2.out hbl60.out).mono ?_
                rintro r w11 ⟨v11, rfl, P11, F11⟩
                rw [show weaveGo (al.map (seesB who)) (al.filter (seesB who)) (al.filter (blindB who)) = al from weave_back (seesB who) al] at P11
                have HA11 := Lib.hid (HA10.out.below F11)
                have B11 := Lib.hid (B10.out.trans (F11.mono B10.out.size))
                obtain ⟨A11, k11, rfl, _⟩ := P11.slice
                have R11 := Lib.hid P11.row.1
                clear P11 F11 HA10 B10 RB R9 R10
                go_wp2_with fail
                refine (same15_c R11.out HA11.out h60'.out h60'.out).mono ?_
                rintro r w12 ⟨rfl, F12⟩
                rw [decide_eq_true (rfl : al = al)]
                have B12 := Lib.hid (B11.out.trans (F12.mono B11.out.size))
                clear F12
                go_wp2
                go_ret
                exact ⟨rfl, B12.out⟩
end Go.Proofs.Ytamnibfaoikdbaa
