/- SlabFills. -/
import Derived.Test.YtlkhpkdndmlnaaaDoorAl3
import Derived.Test.YtlkhpkdndmlnaaaDoorSetP
import Derived.Test.YtlkhpkdndmlnaaaDoorGa2
namespace Go.Proofs.YtlkhpkdndmlnaaaDoor
open Go.RowKit
set_option linter.unusedVariables false
set_option linter.unusedSimpArgs false
set_option linter.unusedSectionVars false
set_option maxRecDepth 100000

theorem mask31 (a : Int) : ∃ N : Nat, bits .and .i64 a 31 = (N : Int) ∧ N < 32 := by
  have := and_mask 5 31 (by decide) (by decide) a
  rw [show ((2 ^ 5 : Nat) : Int) = 32 from rfl] at this
  exact ⟨(a % 32).toNat, by rw [this]; omega, by omega⟩
/-- Of a set that is full of holes from L on. -/
def upTo (P : Nat → Bool) (L : Nat) (i : Nat) : Bool := P i || decide (i < L)
theorem take_upTo {α : Type} {n L : Nat} {P : Nat → Bool} (hc : (ofS n (upTo P L)).count true < n) (vs : List α) (v : α) :
    ∃ j, L ≤ j ∧ j < n ∧ P j = false ∧ nextV (ofS n (upTo P L)) false 0 = j ∧ nextO (ofS n (upTo P L)) false 0 = true ∧ takeX (ofS n (upTo P L)) = ofS n (upTo P (j + 1)) ∧ (ofS n (upTo P (j + 1))).count true = (ofS n (upTo P L)).count true + 1 := by
  cases hn : nextB (ofS n (upTo P L)) false 0 with
  | none =>
    have h0 := nextB_no hn
    have : (ofS n (upTo P L)).count true = n := by
      refine count_all (fun i hi => ?_)
      have := h0 i (by rw [ofS_len]; exact hi) (Nat.zero_le _)
      rw [ofS_at hi] at this
      simpa using this
    omega
  | some j =>
    obtain ⟨hj, -, hb, hno⟩ := nextB_of hn
    have hjn : j < n := by rwa [ofS_len] at hj
    have t := take_at (vs := vs) hn v
    rw [ofS_at hjn] at hb
    have hb2 : P j = false ∧ L ≤ j := by
      unfold upTo at hb
      simp at hb
      exact hb
    have hx : (ofS n (upTo P L)).set j true = ofS n (upTo P (j + 1)) := by
      rw [ofS_set]
      apply ofS_ext
      intro i hi
      by_cases hij : i = j
      · subst hij; simp [upTo]
      · rw [if_neg hij]
        rcases Nat.lt_or_ge i j with h1 | h1
        · have := hno i (by rw [ofS_len]; exact hi) (Nat.zero_le _) h1
          rw [ofS_at hi] at this
          rw [show upTo P L i = true by simpa using this]
          simp [upTo]; right; omega
        · unfold upTo
          rw [show decide (i < L) = false by simp; omega, show decide (i < j + 1) = false by simp; omega]
    refine ⟨j, hb2.2, hjn, hb2.1, t.1, t.2.1, by rw [t.2.2.2]; exact hx, ?_⟩
    have := count_set (X := ofS n (upTo P L)) (k := j) hj true
    rw [hx, ofS_at hjn, hb] at this
    simpa using this
theorem upTo_lt {n k : Nat} : ofS n (upTo (fun _ => false) k) = ofS n (ltB k) := ofS_ext fun i _ => by simp [upTo, ltB]
theorem count_upTo_lt {n k : Nat} (hk : k ≤ n) : (ofS n (upTo (fun _ => false) k)).count true = k := by
  induction k with
  | zero =>
    have : ofS n (upTo (fun _ => false) 0) = List.replicate n false := by rw [ofS_false]; exact ofS_ext fun i _ => by simp [upTo]
    rw [this, List.count_replicate]; rfl
  | succ k ih =>
    have h1 := ih (by omega)
    have hkn : k < (ofS n (upTo (fun _ => false) k)).length := by rw [ofS_len]; omega
    have := count_set hkn true
    rw [ofS_set, ofS_at (by omega)] at this
    rw [show ofS n (fun i => if i = k then true else upTo (fun _ => false) k i) = ofS n (upTo (fun _ => false) (k + 1)) from ofS_ext fun i _ => by
      unfold upTo
      by_cases h : i = k
      · subst h; simp
      · rw [if_neg h]; rw [Bool.eq_iff_iff]; simp; omega] at this
    have e : upTo (fun _ => false) k k = false := by simp [upTo]
    rw [e] at this
    simp at this
    omega
theorem take_full {α : Type} {n : Nat} (vs : List α) (v : α) : nextV (ofS n (upTo (fun _ => false) n)) false 0 = 0 ∧ nextO (ofS n (upTo (fun _ => false) n)) false 0 = false ∧ takeX (ofS n (upTo (fun _ => false) n)) = ofS n (upTo (fun _ => false) n) := by
  have := take_no (vs := vs) (X := ofS n (upTo (fun _ => false) n)) (nextB_none (fun i hi _ => by
    rw [ofS_len] at hi
    rw [ofS_at hi]; simp [upTo, hi])) v
  exact ⟨this.1, this.2.1, this.2.2.2⟩

/-- A region, and in block Fb how often each place became free. -/
structure FiS (w wr : World) (r b off n p g Fb : Nat) (P : Nat → Bool) (X : List Bool) : Prop where
  O : ∃ vs, OneR iE w wr r b off n p g vs X
  fr : ∀ i, i < n → Cel wr Fb i (.int .i64 (if P i then 0 else 1))
  ne : Fb ≠ p ∧ Fb ≠ g ∧ Fb ≠ b ∧ Fb ≠ r
  lo : w.heap.size ≤ Fb
theorem FiS.turn {w wr w' : World} {r b off n p g Fb : Nat} {P : Nat → Bool} {X X' : List Bool} {vs vs' : List Int} (h : FiS w wr r b off n p g Fb P X) (O : OneR iE w wr r b off n p g vs X) (R : RegS iE w' r b off n p g vs' X') (F : FrC (regF iE b off n p g) wr w') : FiS w w' r b off n p g Fb P X' :=
  ⟨⟨_, O.turn R F⟩, fun i hi => F.keep ⟨h.ne.1, h.ne.2.1, h.ne.2.2.1⟩ (h.fr i hi), h.ne, h.lo⟩
theorem FiS.drop {w wr : World} {r b off n p g Fb j : Nat} {P : Nat → Bool} {X : List Bool} (h : FiS w wr r b off n p g Fb P X) (hj : j < n) : FiS w (wr.setCell ⟨Fb, j, none⟩ (.int .i64 1)) r b off n p g Fb (fun i => P i && !decide ((i : Int) = (j : Int))) X := by
  obtain ⟨vs, O⟩ := h.O
  have F := FrC.set wr Fb j (.int .i64 1)
  refine ⟨⟨vs, O.R.frc F (fun o e => h.ne.2.2.2 e.1.symm) (fun o e => h.ne.1 e.1.symm) (fun o e => h.ne.2.1 e.1.symm) (fun o _ _ e => h.ne.2.2.1 e.1.symm), O.B.trans (F.below O.B.size (fun k o hk e => by have := h.lo; have := e.1; omega)), O.T, O.lo, Nat.lt_of_lt_of_le O.bl F.size⟩, fun i hi => ?_, h.ne, h.lo⟩
  by_cases hij : i = j
  · subst hij
    have := (h.fr i hi).same (.int .i64 1)
    simpa using this
  · have := (h.fr i hi).other (b' := Fb) (o' := j) (.inr (fun e => hij e.symm)) (.int .i64 1)
    rw [show decide ((i : Int) = (j : Int)) = false by simp; omega]
    simpa using this
theorem count_drop {n j : Nat} {P : Nat → Bool} (hj : j < n) (hp : P j = true) : (ofS n (fun i => P i && !decide ((i : Int) = (j : Int)))).count true + 1 = (ofS n P).count true := by
  have hjl : j < (ofS n P).length := by rw [ofS_len]; exact hj
  have := count_set hjl false
  rw [ofS_set, ofS_at hj, hp] at this
  rw [show ofS n (fun i => if i = j then false else P i) = ofS n (fun i => P i && !decide ((i : Int) = (j : Int))) from ofS_ext fun i _ => by
    by_cases h : i = j
    · subst h; simp
    · rw [if_neg h, show decide ((i : Int) = (j : Int)) = false by simp; omega]; simp] at this
  simpa using this
theorem upTo_zero (n : Nat) (P : Nat → Bool) : ofS n P = ofS n (upTo P 0) := ofS_ext fun i _ => by simp [upTo]

set_option maxHeartbeats 16000000 in
theorem fills_walk (a : Int) (A1 : Option Addr) (c1 : Nat) (xs : List Int) (w : World) (hT : Tab w) (hr : RowAt (fun x : Int => [.int .i64 x]) 1 w A1 xs) :
    Calls Tryd.prog 3 #[.int .i64 a, .slice A1 xs.length c1] w fun e w' => e = .returned (.bool true) ∧ Below w.heap.size w w' := by
  have HR := Lib.hid hr; have HT := Lib.hid hT
  obtain ⟨N, hN⟩ : ∃ N, N = xs.length := ⟨_, rfl⟩
  obtain ⟨n, hn, hn32⟩ := mask31 a
  rw [← hN]
  clear hr hT
  by_cases hbig : 40 < N
  · have d1 : decide ((40 : Int) < (N : Int)) = true := decide_eq_true (by omega)
    have d2 : decide (40 < N) = true := decide_eq_true hbig
    replace hN := Lib.hid hN
    clear hbig
    go_enter Tryd.func3, Tryd.ntmps3
    go_wp2_with fail
    refine (alive03_c w HT.out).mono ?_
    rintro e w1 ⟨rfl, F⟩
    replace F := Lib.hid F
    go_wp2
    go_ret
    exact ⟨rfl, F.out⟩
  have d1 : decide ((40 : Int) < (N : Int)) = false := decide_eq_false (by omega)
  have d2 : decide (40 < N) = false := decide_eq_false hbig
  replace hN := Lib.hid hN
  have hN40 : N ≤ 40 := by omega
  clear hbig
  go_enter Tryd.func3, Tryd.ntmps3
  go_wp2_with fail
  refine (alive03_c w HT.out).mono ?_
  rintro e w1 ⟨rfl, F⟩
  have B1 := Lib.hid (F.trans ((blA (Below.refl w1.heap.size w1) (.cells #[.int .i64 n] 3)).mono F.size))
  clear F
  go_wp2_with fail
  refine (new_I (cs := [(n : Int)]) (cc := 1) (row_new w1 #[.int .i64 n] 3 [(n : Int)] rfl) (by simp) (by simp)).mono ?_
  rintro e w2 ⟨s, b, ds, rfl, S, hds, F⟩
  obtain ⟨d, rfl, hdn, O⟩ := S.one (m := n) (by rw [hds]; simp [capsR, capR]; omega) (B1.out.size) (Nat.le_refl _) (B1.out.trans (F.mono B1.out.size)) HT.out
  have O0 := Lib.hid (show OneR iE w w2 d.r b d.off n d.p d.g (List.replicate n 0) (ofS n (upTo (fun _ => false) 0)) from by
    rw [show ofS n (upTo (fun _ => false) 0) = List.replicate n false by rw [ofS_false]; exact ofS_ext fun i _ => by simp [upTo]]; exact O)
  clear hds F B1 O
  go_wp2_with fail
  refine (region_I S (k := 0) (by simp)).mono ?_
  rintro e w' ⟨rfl, rfl⟩
  rw [show [d][0] = d from rfl]
  clear S hdn
  generalize d.r = r at *; generalize d.off = off at *; generalize d.p = p at *; generalize d.g = g at *
  clear d
  go_wp2_with fail
  have O1 := Lib.hid (show ∃ vs, OneR iE w w2 r b off n p g vs (ofS n (upTo (fun _ => false) 0)) from ⟨_, O0.out⟩)
  clear O0
  go_loopw [30] (fun ii wr => ∃ (i : Nat), ii = .int .i64 i ∧ Hid (∃ vs, OneR iE w wr r b off n p g vs (ofS n (upTo (fun _ => false) i))) ∧ Hid (i ≤ n)) (fun ii _ => n - (intOf ii).toNat)
  case atStart => exact ⟨0, rfl, O1, Lib.hid (Nat.zero_le _)⟩
  case round =>
    clear O1
    obtain ⟨i, rfl, O, hi⟩ := hrel
    obtain ⟨vs, O⟩ := O.out
    replace O := Lib.hid O
    by_cases hlt : i < n
    · obtain ⟨j, t1, t2, -, t3, t4, t5, -⟩ := take_upTo (n := n) (L := i) (P := fun _ => false) (by rw [count_upTo_lt (by omega)]; exact hlt) vs (i : Int)
      obtain rfl : j = i := by
        have := t5
        rcases Nat.lt_or_ge i j with h | h
        · exfalso
          have c1 := count_upTo_lt (n := n) (k := i) (by omega)
          have t6 := take_upTo (n := n) (L := i) (P := fun _ => false) (by rw [c1]; exact hlt) vs (i : Int)
          obtain ⟨j2, -, h2, -, h3, -, -, h4⟩ := t6
          rw [count_upTo_lt (by omega), c1] at h4
          have : (j : Int) = (j2 : Int) := t3.symm.trans h3
          omega
        · omega
      have hlH := Lib.hid hlt
      go_wp2_with fail
      refine (take_i O.out.R O.out.tab j).mono ?_
      rintro e w3 ⟨rfl, R, F⟩
      rw [t5] at R
      rw [t3, t4]
      have O2 := Lib.hid (show ∃ vs, OneR iE w w3 r b off n p g vs (ofS n (upTo (fun _ => false) (j + 1))) from ⟨_, O.out.turn R F⟩)
      clear R F O t1 t2 t3 t4 t5
      go_wp2
      go_roundw
      case rel => exact ⟨j + 1, by go_num, O2, hlH⟩
      case measure => have := hlH.out; simp [intOf]; omega
    · obtain rfl : n = i := by have := hi.out; omega
      clear hi hlt
      obtain ⟨t3, t4, t5⟩ := take_full (n := n) vs (9 : Int)
      go_wp2_with fail
      refine (take_i O.out.R O.out.tab 9).mono ?_
      rintro e w3 ⟨rfl, R, F⟩
      rw [t5] at R
      rw [t3, t4]
      replace O := Lib.hid (O.out.turn R F)
      clear R F t3 t4 t5
      go_wp2_with fail
      refine (countR_i O.out.R).mono ?_
      rintro e w4 ⟨rfl, rfl⟩
      rw [count_upTo_lt (Nat.le_refl n)]
      obtain ⟨Z, s1, z1, k1⟩ := make_eq (t := 22) Tryd.underlying22 info3 rfl rfl .i64 .i64 n (by omega) (by omega)
      replace s1 := Lib.hid s1; replace z1 := Lib.hid z1
      go_wp2_with fail
      have Q0 := Lib.hid (show FiS w (w3.alloc (.cells Z 3)) r b off n p g w3.heap.size (fun _ => true) (ofS n (fun _ => true)) from by
        have lt := O.out.R.lt
        refine ⟨⟨_, (show ofS n (fun _ => true) = ofS n (upTo (fun _ => false) n) from ofS_ext fun i hi => by simp [upTo, hi]) ▸ O.out.below (blA (Below.refl _ _) _)⟩, fun i hi => ?_, ⟨by omega, by omega, ?_, by omega⟩, O.out.B.size⟩
        · refine Cel.new w3 Z 3 i _ ?_
          have := z1.out i 0 hi (by decide)
          rw [Nat.mul_one, Nat.add_zero] at this
          rw [this]; rfl
        · have : b < w3.heap.size := O.out.bl
          omega)
      have hc0 : (ofS n (fun _ : Nat => true)).count true = n := count_all (fun _ _ => rfl)
      clear O
      generalize hFb : w3.heap.size = Fb at *
      generalize w3.alloc (.cells Z 3) = w4 at *
      clear hFb k1 s1 z1
      go_loopw [12, 63] (fun nf ii wr => ∃ (i f : Nat) (P : Nat → Bool), ii = .int .i64 i ∧ nf = .int .i64 f ∧ Hid (FiS w wr r b off n p g Fb P (ofS n P)) ∧ Hid (f + (ofS n P).count true = n) ∧ Hid (i ≤ N)) (fun _ ii _ => N - (intOf ii).toNat)
      case atStart => exact ⟨0, 0, _, rfl, rfl, Q0, Lib.hid (by omega), Lib.hid (Nat.zero_le _)⟩
      case round =>
        clear Q0 hc0
        obtain ⟨i, f, P, rfl, rfl, Q, hf, hi⟩ := hrel
        obtain ⟨vs, O⟩ := Q.out.O
        replace O := Lib.hid O
        have hfn : f ≤ n := by have := hf.out; omega
        by_cases hlt : i < N
        · obtain ⟨bb, off', rfl, hbl, hc⟩ := HR.out i (by have := hN.out; omega)
          have c0 := hc 0 _ rfl
          obtain ⟨y, hy⟩ : ∃ y, y = xs[i]'(by have := hN.out; omega) := ⟨_, rfl⟩
          rw [← hy] at c0
          simp only [Nat.mul_one, Nat.add_zero] at c0
          replace c0 := (O.out.B.cell (p := ⟨bb, off' + i, none⟩) hbl).trans c0
          have hlH := Lib.hid hlt
          replace hy := Lib.hid hy
          clear hc hbl
          go_wp2_with fail
          refine (give_i O.out.R y).mono ?_
          rintro e w5 ⟨rfl, R, F⟩
          rw [dropL_of] at R
          have Q1 := Lib.hid (Q.out.turn O.out R F)
          rw [hasB_of]
          clear R F c0 Q O
          cases hh : (decide (0 ≤ y) && decide (y < n) && P y.toNat) with
          | false =>
            have e5 : ofS n (fun i => P i && !decide ((i : Int) = y)) = ofS n P := ofS_ext fun i hi => by
              by_cases h : (i : Int) = y
              · subst h
                simp [hi] at hh
                simp [hh]
              · rw [show decide ((i : Int) = y) = false by simpa using h]; simp
            rw [e5] at Q1
            clear e5 hh
            go_wp2
            go_roundw
            case rel => exact ⟨i + 1, f, P, by go_num, rfl, Q1, hf, hlH⟩
            case measure => have := hlH.out; simp [intOf]; omega
          | true =>
            simp only [Bool.and_eq_true, decide_eq_true_eq] at hh
            obtain ⟨⟨h1, h2⟩, h3⟩ := hh
            obtain ⟨j, rfl⟩ := Int.eq_ofNat_of_zero_le h1
            have hj : j < n := by omega
            rw [show ((j : Int)).toNat = j from rfl] at h3
            have hc3 := Q1.out.fr j hj
            rw [h3] at hc3
            have hc1 := hc3.1; have hc2 := hc3.2
            have Q2 := Lib.hid (Q1.out.drop hj)
            have hf2 := Lib.hid (show f + 1 + (ofS n (fun i => P i && !decide ((i : Int) = (j : Int)))).count true = n by have := count_drop (P := P) hj h3; have := hf.out; omega)
            have hj4 : j < 4096 := by omega
            clear hc3 h1 h2 h3 Q1
            go_wp2
            go_roundw
            case rel => exact ⟨i + 1, f + 1, _, by go_num, by go_num, Q2, hf2, hlH⟩
            case measure => have := hlH.out; simp [intOf]; omega
        · obtain rfl : N = i := by have := hi.out; omega
          clear hi hlt O
          have Q1 := Lib.hid (show FiS w wr r b off n p g Fb P (ofS n (upTo P 0)) from upTo_zero n P ▸ Q.out)
          have hf1 := Lib.hid (show f + (ofS n (upTo P 0)).count true = n from upTo_zero n P ▸ hf.out)
          clear Q hf
          go_wp2_with fail
          go_loopw [15, 80] (fun la ii wr => ∃ (m L : Nat), ii = .int .i64 m ∧ la = .int .i64 ((L : Int) - 1) ∧ Hid (FiS w wr r b off n p g Fb P (ofS n (upTo P L))) ∧ Hid (f + (ofS n (upTo P L)).count true = n + m) ∧ Hid (m ≤ f) ∧ Hid (L ≤ n)) (fun _ ii _ => f - (intOf ii).toNat)
          case atStart => exact ⟨0, 0, rfl, rfl, Q1, Lib.hid (by have := hf1.out; omega), Lib.hid (Nat.zero_le _), Lib.hid (Nat.zero_le _)⟩
          case round =>
            clear Q1 hf1
            obtain ⟨m, L, rfl, rfl, Q, hf, hm, hL⟩ := hrel
            obtain ⟨vs, O⟩ := Q.out.O
            replace O := Lib.hid O
            by_cases hlt : m < f
            · obtain ⟨j, t1, t2, t7, t3, t4, t5, t6⟩ := take_upTo (n := n) (L := L) (P := P) (by have := hf.out; omega) vs (100 : Int)
              have hlH := Lib.hid hlt
              have hL4 : L < 33 := by have := hL.out; omega
              go_wp2_with fail
              refine (take_i O.out.R O.out.tab 100).mono ?_
              rintro e w5 ⟨rfl, R, F⟩
              rw [t5] at R
              rw [t3, t4]
              have Q2 := Lib.hid (Q.out.turn O.out R F)
              have hf2 := Lib.hid (show f + (ofS n (upTo P (j + 1))).count true = n + (m + 1) by have := hf.out; omega)
              have hc1 := (Q2.out.fr j t2).1
              rw [t7] at hc1
              replace hc1 : w5.cell? ⟨Fb, j, none⟩ = some (.int .i64 1) := hc1
              have e1 : decide ((j : Int) ≤ (L : Int) - 1) = false := decide_eq_false (by omega)
              have hj4 : j < 33 := by omega
              have eL := Lib.hid (show ((j : Int)) = ((j + 1 : Nat) : Int) - 1 by omega)
              have hjn := Lib.hid (show j + 1 ≤ n from t2)
              clear R F Q O hf t1 t3 t4 t5 t6 t7
              go_wp2
              go_roundw
              case rel => exact ⟨m + 1, j + 1, by go_num, by rw [← eL.out], Q2, hf2, hlH, hjn⟩
              case measure => have := hlH.out; simp [intOf]; omega
            · obtain rfl : f = m := by have := hm.out; omega
              have hcn : (ofS n (upTo P L)).count true = n := by have := hf.out; omega
              have hcH := Lib.hid hcn
              clear hlt hf hm hcn
              go_wp2_with fail
              refine (countR_i O.out.R).mono ?_
              rintro e w4 ⟨rfl, rfl⟩
              rw [hcH.out]
              go_wp2_with fail
              refine (roomR_i O.out.R).mono ?_
              rintro e w4 ⟨rfl, rfl⟩
              go_wp2
              go_ret
              exact ⟨rfl, O.out.B⟩
end Go.Proofs.YtlkhpkdndmlnaaaDoor
