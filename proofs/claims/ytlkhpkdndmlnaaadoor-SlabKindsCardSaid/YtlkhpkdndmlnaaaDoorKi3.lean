/- SlabKinds. -/
import Derived.Test.YtlkhpkdndmlnaaaDoorFi3
import Derived.Test.YtlkhpkdndmlnaaaDoorEq
import Derived.Test.YtlkhpkdndmlnaaaDoorSeq
namespace Go.Proofs.YtlkhpkdndmlnaaaDoor
open Go.RowKit
set_option linter.unusedVariables false
set_option linter.unusedSimpArgs false
set_option linter.unusedSectionVars false
set_option maxRecDepth 100000

theorem eqPr (x y : Pr) (w : World) : (Op.equalIn 10000 39 (.agg #[.int .u64 x.a, .int .u64 x.b, .string x.t]) (.agg #[.int .u64 y.a, .int .u64 y.b, .string y.t])).run Tryd.prog w = .ok (x.a == y.a && (x.b == y.b && (x.t.toList == y.t.toList && true))) w := by
  refine eqs_of (d := 9999) Tryd.underlying39 (by kernel_rfl) ?_
  refine eqs_cons (by rfl) (by go_simp; rfl) (by go_simp; rfl) (by go_simp) ?_
  refine eqs_cons (by rfl) (by go_simp; rfl) (by go_simp; rfl) (by go_simp) ?_
  refine eqs_cons (by rfl) (by go_simp; rfl) (by go_simp; rfl) (by go_simp) ?_
  exact eqs_nil
theorem eqPrT (x y : Int) (t : ByteArray) : ∀ w, (Op.equalIn 10000 39 (.agg #[.int .u64 x, .int .u64 y, .string t]) (.agg #[.int .u64 x, .int .u64 y, .string t])).run Tryd.prog w = .ok true w := fun w => (eqPr ⟨x, y, t⟩ ⟨x, y, t⟩ w).trans (by simp)

/-- Three regions, of which the one in the middle turns. -/
structure KdS (w wr : World) (base top s b : Nat) (d0 d1 d2 : RD) (vs : List Pr) (X : List Bool) : Prop where
  S : SlabS prE pPE wr base top s b [d0, d1, d2] [(List.replicate d0.n Pr.zero, List.replicate d0.n false), (vs, X), (List.replicate d2.n Pr.zero, List.replicate d2.n false)]
  B : Below w.heap.size w wr
  T : Tab w
  lo : w.heap.size ≤ base
section
variable {w wr w' : World} {base top s b : Nat} {d0 d1 d2 : RD} {vs vs' : List Pr} {X X' : List Bool}
theorem KdS.tab (h : KdS w wr base top s b d0 d1 d2 vs X) : Tab wr := h.T.below h.B
theorem KdS.R (h : KdS w wr base top s b d0 d1 d2 vs X) : RegS prE wr d1.r b d1.off d1.n d1.p d1.g vs X := h.S.reg 1 _ _ rfl rfl
theorem KdS.R0 (h : KdS w wr base top s b d0 d1 d2 vs X) : RegS prE wr d0.r b d0.off d0.n d0.p d0.g (List.replicate d0.n Pr.zero) (List.replicate d0.n false) := h.S.reg 0 _ _ rfl rfl
theorem KdS.R2 (h : KdS w wr base top s b d0 d1 d2 vs X) : RegS prE wr d2.r b d2.off d2.n d2.p d2.g (List.replicate d2.n Pr.zero) (List.replicate d2.n false) := h.S.reg 2 _ _ rfl rfl
theorem KdS.below (h : KdS w wr base top s b d0 d1 d2 vs X) (F : Below wr.heap.size wr w') : KdS w w' base top s b d0 d1 d2 vs X := ⟨h.S.below F, h.B.trans (F.mono h.B.size), h.T, h.lo⟩
theorem KdS.drew (h : KdS w wr base top s b d0 d1 d2 vs X) : KdS w wr.drew base top s b d0 d1 d2 vs X := h.below ⟨rfl, rfl, rfl, Nat.le_refl _, fun _ _ => rfl⟩
theorem KdS.turn (h : KdS w wr base top s b d0 d1 d2 vs X) (R : RegS prE w' d1.r b d1.off d1.n d1.p d1.g vs' X') (F : FrC (regF prE b d1.off d1.n d1.p d1.g) wr w') : KdS w w' base top s b d0 d1 d2 vs' X' := by
  have ok := h.S.ok d1 (by simp)
  have k1 := ok.p; have k2 := ok.g; have k3 := ok.base; have k4 := h.lo; have k6 := h.S.sb
  refine ⟨h.S.turn (k := 1) rfl R F, h.B.trans (F.below h.B.size (fun k o hk e => ?_)), h.T, h.lo⟩
  rcases e with (e | e) | e
  · omega
  · omega
  · have := e.1; omega
end
/-- What is in the places from k on. -/
def valsAt (pr : Nat → Pr) (k m : Nat) (vs : List Pr) : Prop := ∀ i, k ≤ i → i < m → vs[i]? = some (pr i)
/-- The places from k on, ahead of m, are taken. -/
def midB (k m : Nat) (i : Nat) : Bool := decide (k ≤ i) && decide (i < m)
theorem mid_start (n m : Nat) : ofS n (upTo (fun _ => false) m) = ofS n (midB 0 m) := ofS_ext fun i _ => by simp [upTo, midB]
theorem mid_has {n k m : Nat} (hk : k < m) (hm : m ≤ n) : hasB (ofS n (midB k m)) (k : Int) = true := by
  rw [hasB_of]; simp [midB]; omega
theorem mid_no {n k m : Nat} (hk : m ≤ k) : hasB (ofS n (midB k m)) (k : Int) = false := by
  rw [hasB_of]; simp [midB]; omega
theorem mid_drop {n k m : Nat} : dropL (ofS n (midB k m)) (k : Int) = ofS n (midB (k + 1) m) := by
  rw [dropL_of]; refine ofS_ext fun i _ => ?_
  unfold midB; rw [Bool.eq_iff_iff]; simp; omega
theorem mid_next {n k m : Nat} (hk : m ≤ k) : ofS n (midB k m) = ofS n (midB (k + 1) m) := ofS_ext fun i _ => by unfold midB; rw [Bool.eq_iff_iff]; simp; omega
theorem mid_gone {n k m : Nat} : hasB (ofS n (midB (k + 1) m)) (k : Int) = false := by
  rw [hasB_of]; simp [midB]; omega
theorem drop_gone {n k m : Nat} : dropL (ofS n (midB (k + 1) m)) (k : Int) = ofS n (midB (k + 1) m) := by unfold dropL; rw [mid_gone]; rfl
theorem mid_count {n k m : Nat} (h : m ≤ k) : (ofS n (midB k m)).count true = 0 := by
  rw [show ofS n (midB k m) = List.replicate n false by rw [ofS_false]; exact ofS_ext fun i _ => by unfold midB; rw [Bool.eq_iff_iff]; simp; omega, List.count_replicate]; rfl

/-- What all three slices tell of the thing k. -/
theorem sPr_at {w wr : World} {A B T : Option Addr} {as0 bs0 : List Int} {ts : List ByteArray} {N k : Nat} (ha : RowAt (fun z : Int => [.int .u64 z]) 1 w A as0) (hb : RowAt (fun z : Int => [.int .u64 z]) 1 w B bs0) (ht : RowAt (fun z : ByteArray => [.string z]) 1 w T ts)
    (hN : N = ts.length) (hA : N ≤ as0.length) (hB : N ≤ bs0.length) (hk : k < N) (F : Below w.heap.size w wr) :
    ∃ b1 o1 b2 o2 b3 o3, A = some ⟨b1, o1, none⟩ ∧ B = some ⟨b2, o2, none⟩ ∧ T = some ⟨b3, o3, none⟩ ∧ wr.cell? ⟨b1, o1 + k, none⟩ = some (.int .u64 (as0.getD k 0)) ∧ wr.cell? ⟨b2, o2 + k, none⟩ = some (.int .u64 (bs0.getD k 0)) ∧ wr.cell? ⟨b3, o3 + k, none⟩ = some (.string (ts.getD k ⟨#[]⟩)) ∧ b1 < w.heap.size ∧ b2 < w.heap.size ∧ b3 < w.heap.size := by
  obtain ⟨b1, o1, e1, l1, c1⟩ := ha k (by omega)
  obtain ⟨b2, o2, e2, l2, c2⟩ := hb k (by omega)
  obtain ⟨b3, o3, e3, l3, c3⟩ := ht k (by omega)
  refine ⟨b1, o1, b2, o2, b3, o3, e1, e2, e3, ?_, ?_, ?_, l1, l2, l3⟩
  · have := c1 0 _ rfl
    rw [Nat.mul_one, Nat.add_zero] at this
    rw [(F.cell (p := ⟨b1, o1 + k, none⟩) l1).trans this, List.getD_eq_getElem?_getD, List.getElem?_eq_getElem (by omega)]; rfl
  · have := c2 0 _ rfl
    rw [Nat.mul_one, Nat.add_zero] at this
    rw [(F.cell (p := ⟨b2, o2 + k, none⟩) l2).trans this, List.getD_eq_getElem?_getD, List.getElem?_eq_getElem (by omega)]; rfl
  · have := c3 0 _ rfl
    rw [Nat.mul_one, Nat.add_zero] at this
    rw [(F.cell (p := ⟨b3, o3 + k, none⟩) l3).trans this, List.getD_eq_getElem?_getD, List.getElem?_eq_getElem (by omega)]; rfl

set_option maxHeartbeats 16000000 in
theorem kinds3_walk (a : Int) (A : Option Addr) (cA : Nat) (as0 : List Int) (B : Option Addr) (cB : Nat) (bs0 : List Int) (T : Option Addr) (cT : Nat) (ts : List ByteArray) (w : World) (hT : Tab w)
    (ha : RowAt (fun z : Int => [.int .u64 z]) 1 w A as0) (hb : RowAt (fun z : Int => [.int .u64 z]) 1 w B bs0) (ht : RowAt (fun z : ByteArray => [.string z]) 1 w T ts) :
    Calls Tryd.prog 4 #[.int .i64 a, .slice A as0.length cA, .slice B bs0.length cB, .slice T ts.length cT] w fun e w' => e = .returned (.bool true) ∧ Below w.heap.size w w' := by
  have HA := Lib.hid ha; have HB := Lib.hid hb; have HTx := Lib.hid ht; have HT := Lib.hid hT
  obtain ⟨N, hN⟩ : ∃ N, N = ts.length := ⟨_, rfl⟩
  obtain ⟨NA, hNA⟩ : ∃ N, N = as0.length := ⟨_, rfl⟩
  obtain ⟨NB, hNB⟩ : ∃ N, N = bs0.length := ⟨_, rfl⟩
  rw [← hN, ← hNA, ← hNB]
  clear ha hb ht hT
  by_cases hbig : 20 < N ∨ NA < N ∨ NB < N
  · have three : (decide ((20 : Int) < (N : Int)) = true ∧ decide (20 < N) = true) ∨ ((decide ((20 : Int) < (N : Int)) = false ∧ decide (20 < N) = false) ∧ (decide ((NA : Int) < (N : Int)) = true ∧ decide (NA < N) = true)) ∨ ((decide ((20 : Int) < (N : Int)) = false ∧ decide (20 < N) = false) ∧ (decide ((NA : Int) < (N : Int)) = false ∧ decide (NA < N) = false) ∧ (decide ((NB : Int) < (N : Int)) = true ∧ decide (NB < N) = true)) := by
      by_cases h1 : 20 < N
      · exact .inl ⟨decide_eq_true (by omega), decide_eq_true h1⟩
      by_cases h2 : NA < N
      · exact .inr (.inl ⟨⟨decide_eq_false (by omega), decide_eq_false h1⟩, decide_eq_true (by omega), decide_eq_true h2⟩)
      · exact .inr (.inr ⟨⟨decide_eq_false (by omega), decide_eq_false h1⟩, ⟨decide_eq_false (by omega), decide_eq_false h2⟩, decide_eq_true (by omega), decide_eq_true (by omega)⟩)
    replace hN := Lib.hid hN; replace hNA := Lib.hid hNA; replace hNB := Lib.hid hNB
    clear hbig
    go_enter Tryd.func4, Tryd.ntmps4
    rcases three with ⟨d1, d2⟩ | ⟨⟨d1, d2⟩, d3, d4⟩ | ⟨⟨d1, d2⟩, ⟨d3, d4⟩, d5, d6⟩
    all_goals
      go_wp2_with fail
      refine (alive03_c w HT.out).mono ?_
      rintro e w1 ⟨rfl, F⟩
      replace F := Lib.hid F
      go_wp2
      go_ret
      exact ⟨rfl, F.out⟩
  obtain ⟨n, hn, hn32⟩ := mask31 a
  obtain ⟨d1, d2⟩ : decide ((20 : Int) < (N : Int)) = false ∧ decide (20 < N) = false := ⟨decide_eq_false (by omega), decide_eq_false (by omega)⟩
  obtain ⟨d3, d4⟩ : decide ((NA : Int) < (N : Int)) = false ∧ decide (NA < N) = false := ⟨decide_eq_false (by omega), decide_eq_false (by omega)⟩
  obtain ⟨d5, d6⟩ : decide ((NB : Int) < (N : Int)) = false ∧ decide (NB < N) = false := ⟨decide_eq_false (by omega), decide_eq_false (by omega)⟩
  have hb : Hid (N ≤ 20 ∧ N ≤ NA ∧ N ≤ NB) := Lib.hid ⟨by omega, by omega, by omega⟩
  replace hN := Lib.hid hN; replace hNA := Lib.hid hNA; replace hNB := Lib.hid hNB
  have hNA2 := hb.out.2.1; have hNB2 := hb.out.2.2; have hN20 := hb.out.1
  clear hbig
  go_enter Tryd.func4, Tryd.ntmps4
  go_wp2_with fail
  refine (alive03_c w HT.out).mono ?_
  rintro e w1 ⟨rfl, F⟩
  have B1 := Lib.hid (F.trans ((blA (Below.refl w1.heap.size w1) (.cells #[.int .i64 5, .int .i64 n, .int .i64 5] 3)).mono F.size))
  clear F
  go_wp2_with fail
  refine (new_P (cs := [5, (n : Int), 5]) (cc := 3) (row_new w1 #[.int .i64 5, .int .i64 n, .int .i64 5] 3 [5, (n : Int), 5] rfl) (by simp) (by simp)).mono ?_
  rintro e w2 ⟨s, b, ds, rfl, S, hds, F⟩
  obtain ⟨e0, e1, e2, rfl, n0, n1, n2⟩ : ∃ d0 d1 d2, ds = [d0, d1, d2] ∧ d0.n = 5 ∧ d1.n = n ∧ d2.n = 5 := by
    match ds, hds with
    | [d0, d1, d2], hn => 
      simp [capsR, capR] at hn
      exact ⟨d0, d1, d2, rfl, hn.1, by omega, hn.2.2⟩
    | [], hn => simp [capsR] at hn
    | [_], hn => simp [capsR] at hn
    | [_, _], hn => simp [capsR] at hn
    | _ :: _ :: _ :: _ :: _, hn => simp [capsR] at hn
  have S0 := Lib.hid (show KdS w w2 (w1.alloc (.cells #[.int .i64 5, .int .i64 n, .int .i64 5] 3)).heap.size w2.heap.size s b e0 e1 e2 (List.replicate n Pr.zero) (ofS n (upTo (fun _ => false) 0)) from by
    rw [show ofS n (upTo (fun _ => false) 0) = List.replicate n false by rw [ofS_false]; exact ofS_ext fun i _ => by simp [upTo]]
    exact ⟨by have := S; unfold fresh at this; simp only [List.map_cons, List.map_nil, n1] at this; exact this, B1.out.trans (F.mono B1.out.size), HT.out, B1.out.size⟩)
  clear hds F B1 S n0 n2
  generalize (w1.alloc (.cells #[.int .i64 5, .int .i64 n, .int .i64 5] 3)).heap.size = base at *
  generalize w2.heap.size = top at *
  replace n1 := Lib.hid n1
  go_wp2_with fail
  refine (region_P S0.out.S (k := 1) (by simp)).mono ?_
  rintro e w' ⟨rfl, rfl⟩
  rw [show [e0, e1, e2][1] = e1 from rfl]
  go_wp2_with fail
  obtain ⟨pr, hpr⟩ : ∃ pr : Nat → Pr, pr = fun i => ⟨as0.getD i 0, bs0.getD i 0, ts.getD i ⟨#[]⟩⟩ := ⟨_, rfl⟩
  replace hpr := Lib.hid hpr
  go_loopw [49] (fun ii wr => ∃ (i : Nat), ii = .int .i64 i ∧ Hid (∃ vs, KdS w wr base top s b e0 e1 e2 vs (ofS n (upTo (fun _ => false) (min i n))) ∧ valsAt pr 0 (min i n) vs) ∧ Hid (i ≤ N)) (fun ii _ => N - (intOf ii).toNat)
  case atStart => exact ⟨0, rfl, Lib.hid ⟨_, by rw [Nat.zero_min]; exact S0.out, fun i _ h => by simp at h⟩, Lib.hid (Nat.zero_le _)⟩
  case round =>
    clear S0
    obtain ⟨i, rfl, O, hi⟩ := hrel
    obtain ⟨vs, O, V⟩ := O.out
    replace O := Lib.hid O; replace V := Lib.hid V
    by_cases hlt : i < N
    · obtain ⟨b1, o1, b2, o2, b3, o3, rfl, rfl, rfl, z1, z2, z3, l1, l2, l3⟩ := sPr_at HA.out HB.out HTx.out hN.out (by rw [← hNA.out]; exact hb.out.2.1) (by rw [← hNB.out]; exact hb.out.2.2) hlt (Below.refl _ w)
      obtain ⟨xa, hxa⟩ : ∃ x, x = as0.getD i 0 := ⟨_, rfl⟩
      obtain ⟨xb, hxb⟩ : ∃ x, x = bs0.getD i 0 := ⟨_, rfl⟩
      obtain ⟨xt, hxt⟩ : ∃ x, x = ts.getD i ⟨#[]⟩ := ⟨_, rfl⟩
      rw [← hxa] at z1; rw [← hxb] at z2; rw [← hxt] at z3
      have Z1 : Hid (∀ X, Below w.heap.size w X → X.cell? ⟨b1, o1 + i, none⟩ = some (.int .u64 xa) ∧ X.cell? ⟨b2, o2 + i, none⟩ = some (.int .u64 xb)) := Lib.hid (fun X F => ⟨(F.cell (p := ⟨b1, o1 + i, none⟩) l1).trans z1, (F.cell (p := ⟨b2, o2 + i, none⟩) l2).trans z2⟩)
      replace z3 := (O.out.B.cell (p := ⟨b3, o3 + i, none⟩) l3).trans z3
      clear z1 z2 l1 l2 l3
      have hp : Hid (pr i = ⟨xa, xb, xt⟩) := Lib.hid (by rw [hpr.out, hxa, hxb, hxt])
      have hlH := Lib.hid hlt
      have hi20 : i < 20 := by omega
      have hiA : i < NA := by omega
      have hiB : i < NB := by omega
      clear hxa hxb hxt
      go_wp2_with fail
      refine seq_start [(0, true), (1, true), (2, true), (3, true), (4, true), (5, true), (6, true), (7, true), (8, true), (9, true), (10, true), (11, false), (12, true), (13, true), (14, true), (15, true), (16, true)] (fun w' => w'.cell? ⟨b1, o1 + i, none⟩ = some (.int .u64 xa) ∧ w'.cell? ⟨b2, o2 + i, none⟩ = some (.int .u64 xb)) (by kernel_rfl) (by kernel_rfl) rfl (by kernel_rfl) (Z1.out _ O.out.drew.B) ?_
      iterate 11 (refine seq_read rfl (by first | rfl | (go_simp; done)) (fun w' hw => by obtain ⟨s0, s1⟩ := hw; go_simp; with_reducible rfl) ?_; try simp only [Act.put, List.setIfInBounds_toArray, List.set_cons_zero, List.set_cons_succ])
      replace O := Lib.hid O.out.drew
      clear z3
      generalize wr.drew = W at *
      refine seq_call rfl (fun K hK => ?_)
      go_simp
      refine (take_P O.out.R O.out.tab ⟨xa, xb, xt⟩).mono ?_
      rintro e w5 ⟨rfl, R, F⟩
      have O2 := Lib.hid (O.out.turn R F)
      refine hK.out _ _ (Z1.out _ O2.out.B) ?_
      clear hK K R F
      try simp only [Act.put, List.setIfInBounds_toArray, List.set_cons_zero, List.set_cons_succ]
      by_cases hin : i < n
      · obtain ⟨j, t1, t2, -, t3, t4, t5, t6⟩ := take_upTo (n := n) (L := i) (P := fun _ => false) (by rw [count_upTo_lt (by omega)]; exact hin) vs (⟨xa, xb, xt⟩ : Pr)
        obtain rfl : j = i := by
          rw [count_upTo_lt (by omega), count_upTo_lt (by omega)] at t6
          omega
        have hm0 : min j n = j := by omega
        have hm1 : min (j + 1) n = j + 1 := by omega
        rw [hm0] at O2 V ⊢
        rw [t5] at O2
        rw [t3, t4]
        have hV : Hid (valsAt pr 0 (min (j + 1) n) (takeV vs (ofS n (upTo (fun _ => false) j)) ⟨xa, xb, xt⟩)) := Lib.hid (by
          rw [hm1]
          have hvl : vs.length = n := by
            have := O.out.R.lv
            rw [n1.out] at this; exact this
          intro q hq hq1
          have e1 : takeV vs (ofS n (upTo (fun _ => false) j)) ⟨xa, xb, xt⟩ = vs.set j ⟨xa, xb, xt⟩ := by
            cases hnb : nextB (ofS n (upTo (fun _ => false) j)) false 0 with
            | none => have := nextO_none (X := ofS n (upTo (fun _ => false) j)) (b := false) (k := 0) hnb; rw [t4] at this; cases this.1
            | some j2 =>
              have h2 := (nextO_some (X := ofS n (upTo (fun _ => false) j)) (b := false) (k := 0) hnb).2
              rw [t3] at h2
              have : j = j2 := by omega
              subst this
              exact (take_at (vs := vs) hnb ⟨xa, xb, xt⟩).2.2.1
          rw [e1]
          by_cases hqj : q = j
          · subst hqj
            rw [List.getElem?_set_self (by omega), hp.out]
          · rw [List.getElem?_set_ne (fun e => hqj e.symm)]
            exact V.out q hq (by omega))
        replace O2 := Lib.hid (show KdS w w5 base top s b e0 e1 e2 (takeV vs (ofS n (upTo (fun _ => false) j)) ⟨xa, xb, xt⟩) (ofS n (upTo (fun _ => false) (min (j + 1) n))) from by rw [hm1]; exact O2.out)
        have dn : decide ((j : Int) < (n : Int)) = true := decide_eq_true (by omega)
        replace hm0 := Lib.hid hm0; replace hm1 := Lib.hid hm1
        clear t1 t2 t3 t4 t5 t6 O V
        iterate 5 (refine seq_read rfl (by first | rfl | (go_simp; done)) (fun w' hw => by obtain ⟨s0, s1⟩ := hw; go_simp; with_reducible rfl) ?_; try simp only [Act.put, List.setIfInBounds_toArray, List.set_cons_zero, List.set_cons_succ])
        refine seq_done ?_
        go_wp2
        go_roundw
        case rel => exact ⟨j + 1, by go_num, Lib.hid ⟨_, O2.out, hV.out⟩, hlH⟩
        case measure => have := hlH.out; simp [intOf]; omega
      · have hm0 : min i n = n := by omega
        have hm1 : min (i + 1) n = n := by omega
        rw [hm0] at O2 O V ⊢
        obtain ⟨t3, t4, t5⟩ := take_full (n := n) vs (⟨xa, xb, xt⟩ : Pr)
        have t6 : takeV vs (ofS n (upTo (fun _ => false) n)) (⟨xa, xb, xt⟩ : Pr) = vs := by
          unfold takeV
          cases hnb : nextB (ofS n (upTo (fun _ => false) n)) false 0 with
          | none => rfl
          | some j2 => have := (nextO_some (X := ofS n (upTo (fun _ => false) n)) (b := false) (k := 0) hnb).1; rw [t4] at this; cases this
        rw [t5, t6] at O2
        rw [t3, t4]
        have dn : decide ((i : Int) < (n : Int)) = false := decide_eq_false (by omega)
        replace hm1 := Lib.hid hm1
        clear t3 t4 t5 t6 O hm0
        iterate 5 (refine seq_read rfl (by first | rfl | (go_simp; done)) (fun w' hw => by obtain ⟨s0, s1⟩ := hw; go_simp; with_reducible rfl) ?_; try simp only [Act.put, List.setIfInBounds_toArray, List.set_cons_zero, List.set_cons_succ])
        refine seq_done ?_
        go_wp2
        go_roundw
        case rel => exact ⟨i + 1, by go_num, Lib.hid ⟨_, by rw [hm1.out]; exact O2.out, by rw [hm1.out]; exact V.out⟩, hlH⟩
        case measure => have := hlH.out; simp [intOf]; omega
    · obtain rfl : N = i := by have := hi.out; omega
      obtain ⟨m, hm⟩ : ∃ m, m = min N n := ⟨_, rfl⟩
      rw [← hm, mid_start] at O
      rw [← hm] at V
      have O1 := Lib.hid (show ∃ vs, KdS w wr base top s b e0 e1 e2 vs (ofS n (midB 0 m)) ∧ valsAt pr 0 m vs from ⟨_, O.out, V.out⟩)
      have hmn : Hid (m ≤ n ∧ m ≤ N) := Lib.hid ⟨by omega, by omega⟩
      replace hm := Lib.hid hm
      clear O V hlt hi
      go_wp2_with fail
      go_loopw [85] (fun ii wr => ∃ (i : Nat), ii = .int .i64 i ∧ Hid (∃ vs, KdS w wr base top s b e0 e1 e2 vs (ofS n (midB i m)) ∧ valsAt pr i m vs) ∧ Hid (i ≤ N)) (fun ii _ => N - (intOf ii).toNat)
      case atStart => exact ⟨0, rfl, O1, Lib.hid (Nat.zero_le _)⟩
      case round =>
        clear O1
        obtain ⟨i, rfl, O, hi⟩ := hrel
        obtain ⟨vs, O, V⟩ := O.out
        replace O := Lib.hid O; replace V := Lib.hid V
        by_cases hlt : i < N
        · obtain ⟨b1, o1, b2, o2, b3, o3, rfl, rfl, rfl, z1, z2, z3, l1, l2, l3⟩ := sPr_at HA.out HB.out HTx.out hN.out (by rw [← hNA.out]; exact hb.out.2.1) (by rw [← hNB.out]; exact hb.out.2.2) hlt (Below.refl _ w)
          obtain ⟨xa, hxa⟩ : ∃ x, x = as0.getD i 0 := ⟨_, rfl⟩
          obtain ⟨xb, hxb⟩ : ∃ x, x = bs0.getD i 0 := ⟨_, rfl⟩
          obtain ⟨xt, hxt⟩ : ∃ x, x = ts.getD i ⟨#[]⟩ := ⟨_, rfl⟩
          rw [← hxa] at z1; rw [← hxb] at z2; rw [← hxt] at z3
          have Z1 : Hid (∀ X, Below w.heap.size w X → X.cell? ⟨b1, o1 + i, none⟩ = some (.int .u64 xa) ∧ X.cell? ⟨b2, o2 + i, none⟩ = some (.int .u64 xb)) := Lib.hid (fun X F => ⟨(F.cell (p := ⟨b1, o1 + i, none⟩) l1).trans z1, (F.cell (p := ⟨b2, o2 + i, none⟩) l2).trans z2⟩)
          replace z3 := (O.out.B.cell (p := ⟨b3, o3 + i, none⟩) l3).trans z3
          clear z1 z2 l1 l2 l3
          have hp : Hid (pr i = ⟨xa, xb, xt⟩) := Lib.hid (by rw [hpr.out, hxa, hxb, hxt])
          have hlH := Lib.hid hlt
          have hi20 : i < 20 := by omega
          have hiA : i < NA := by omega
          have hiB : i < NB := by omega
          have heqT := eqPrT xa xb xt
          have heqZ := eqPrT 0 0 ⟨#[]⟩
          clear hxa hxb hxt
          by_cases him : i < m
          · have hvi := V.out i (Nat.le_refl _) him
            have hin : i < n := by have := hmn.out.1; omega
            have dn : decide ((i : Int) < (n : Int)) = true := decide_eq_true (by omega)
            go_wp2_with fail
            refine (at_P O.out.R i).mono ?_
            rintro e w5 ⟨rfl, F⟩
            rw [mid_has him hmn.out.1, show atV Pr.zero vs (ofS n (midB i m)) (i : Int) = ⟨xa, xb, xt⟩ by
              unfold atV; rw [mid_has him hmn.out.1, if_pos rfl, List.getD_eq_getElem?_getD, show ((i : Int)).toNat = i from rfl, hvi, hp.out]; rfl, show Pr.val ⟨xa, xb, xt⟩ = .agg #[.int .u64 xa, .int .u64 xb, .string xt] from rfl]
            replace O := Lib.hid (O.out.below F)
            clear F hvi
            go_wp2_with fail
            have BA := blA (Below.refl w5.heap.size w5) (.cells #[.int .u64 xa, .int .u64 xb, .string xt] 39)
            have y0 := (Cel.new w5 #[.int .u64 xa, .int .u64 xb, .string xt] 39 0 (.int .u64 xa) rfl).drew
            have y1 := (Cel.new w5 #[.int .u64 xa, .int .u64 xb, .string xt] 39 1 (.int .u64 xb) rfl).drew
            have y2 := (Cel.new w5 #[.int .u64 xa, .int .u64 xb, .string xt] 39 2 (.string xt) rfl).drew
            replace O := Lib.hid (O.out.below BA).drew
            refine seq_start [(0, true), (1, true), (2, true), (3, true), (4, true), (5, true), (6, true), (7, true), (8, true), (9, true), (10, true), (11, true), (12, true), (13, true), (14, true), (15, true), (16, true), (17, true), (18, true), (19, true), (20, true), (21, true)] (fun w' => (w'.cell? ⟨b1, o1 + i, none⟩ = some (.int .u64 xa) ∧ w'.cell? ⟨b2, o2 + i, none⟩ = some (.int .u64 xb)) ∧ w'.cell? ⟨w5.heap.size, 0, none⟩ = some (.int .u64 xa) ∧ w'.cell? ⟨w5.heap.size, 1, none⟩ = some (.int .u64 xb) ∧ w'.cell? ⟨w5.heap.size, 2, none⟩ = some (.string xt)) (by kernel_rfl) (by kernel_rfl) rfl (by kernel_rfl) ⟨Z1.out _ O.out.B, y0.1, y1.1, y2.1⟩ ?_
            iterate 22 (refine seq_read rfl (by first | rfl | (go_simp; done)) (fun w' hw => by obtain ⟨⟨s0, s1⟩, s2, s3, s4⟩ := hw; go_simp; with_reducible rfl) ?_; try simp only [Act.put, List.setIfInBounds_toArray, List.set_cons_zero, List.set_cons_succ])
            refine seq_done ?_
            clear BA y0 y1 y2 z3
            generalize (w5.alloc (.cells #[.int .u64 xa, .int .u64 xb, .string xt] 39)).drew = w6 at *
            go_wp2_with fail
            refine (give_P O.out.R i).mono ?_
            rintro e w7 ⟨rfl, R, F⟩
            rw [mid_drop] at R
            rw [mid_has him hmn.out.1]
            have O2 := Lib.hid (O.out.turn R F)
            clear R F
            go_wp2_with fail
            refine (hasR_P O2.out.R i).mono ?_
            rintro e w8 ⟨rfl, rfl⟩
            rw [mid_gone]
            go_wp2_with fail
            refine (give_P O2.out.R i).mono ?_
            rintro e w8 ⟨rfl, R, F⟩
            rw [drop_gone] at R
            rw [mid_gone]
            have O3 := Lib.hid (O2.out.turn R F)
            have hV3 : Hid (valsAt pr (i + 1) m (giveV Pr.zero (giveV Pr.zero vs (ofS n (midB i m)) (i : Int)) (ofS n (midB (i + 1) m)) (i : Int))) := Lib.hid (by
              intro q hq hqm
              unfold giveV
              rw [mid_gone, mid_has him hmn.out.1]
              simp only [Bool.false_eq_true, if_false, if_true]
              rw [List.getElem?_set_ne (by show i ≠ q; omega)]
              exact V.out q (by omega) hqm)
            clear R F O O2
            go_wp2_with fail
            refine (at_P O3.out.R i).mono ?_
            rintro e w9 ⟨rfl, F⟩
            rw [mid_gone, show ∀ vs, atV Pr.zero vs (ofS n (midB (i + 1) m)) (i : Int) = Pr.zero from fun vs => by unfold atV; rw [mid_gone]; rfl, show Pr.val Pr.zero = .agg #[.int .u64 0, .int .u64 0, .string ⟨#[]⟩] from rfl]
            replace O3 := Lib.hid ((O3.out.below F).below (blA (Below.refl w9.heap.size w9) (.cells #[.int .u64 0, .int .u64 0, .string ⟨#[]⟩] 39)))
            clear F
            go_wp2
            go_roundw
            case rel => exact ⟨i + 1, by go_num, Lib.hid ⟨_, O3.out, hV3.out⟩, hlH⟩
            case measure => have := hlH.out; simp [intOf]; omega
          · have him2 : m ≤ i := by omega
            have hin : ¬ i < n := by have := hm.out; omega
            have dn : decide ((i : Int) < (n : Int)) = false := decide_eq_false (by omega)
            have dn2 : decide (i < n) = false := decide_eq_false hin
            have eZ : Hid (atV Pr.zero vs (ofS n (midB i m)) (i : Int) = Pr.zero) := Lib.hid (by unfold atV; rw [mid_no him2]; rfl)
            have eX := Lib.hid (mid_next (n := n) him2)
            replace him2 := Lib.hid him2; replace hin := Lib.hid hin
            clear him
            go_wp2_with fail
            refine (at_P O.out.R i).mono ?_
            rintro e w5 ⟨rfl, F⟩
            rw [mid_no him2.out, eZ.out, show Pr.val Pr.zero = .agg #[.int .u64 0, .int .u64 0, .string ⟨#[]⟩] from rfl]
            replace O := Lib.hid ((O.out.below F).below (blA (Below.refl w5.heap.size w5) (.cells #[.int .u64 0, .int .u64 0, .string ⟨#[]⟩] 39))).drew
            clear F z3
            go_wp2_with fail
            refine seq_start [(0, true), (1, true), (2, true), (3, true), (4, true), (5, true), (6, true), (7, true), (8, true), (9, true), (10, true), (11, true), (12, true), (13, true), (14, true), (15, true), (16, true), (17, true), (18, true), (19, true), (20, true), (21, true)] (fun w' => w'.cell? ⟨b1, o1 + i, none⟩ = some (.int .u64 xa) ∧ w'.cell? ⟨b2, o2 + i, none⟩ = some (.int .u64 xb)) (by kernel_rfl) (by kernel_rfl) rfl (by kernel_rfl) (Z1.out _ O.out.B) ?_
            iterate 8 (refine seq_read rfl (by first | rfl | (go_simp; done)) (fun w' hw => by obtain ⟨s0, s1⟩ := hw; go_simp; with_reducible rfl) ?_; try simp only [Act.put, List.setIfInBounds_toArray, List.set_cons_zero, List.set_cons_succ])
            iterate 12 (refine seq_skip rfl (by first | rfl | (go_simp; done)) ?_; try simp only [Act.put, List.setIfInBounds_toArray, List.set_cons_zero, List.set_cons_succ])
            iterate 2 (refine seq_read rfl (by first | rfl | (go_simp; done)) (fun w' hw => by obtain ⟨s0, s1⟩ := hw; go_simp; with_reducible rfl) ?_; try simp only [Act.put, List.setIfInBounds_toArray, List.set_cons_zero, List.set_cons_succ])
            refine seq_done ?_
            generalize (w5.alloc (.cells #[.int .u64 0, .int .u64 0, .string ⟨#[]⟩] 39)).drew = w6 at *
            go_wp2_with fail
            refine (at_P O.out.R i).mono ?_
            rintro e w9 ⟨rfl, F⟩
            rw [mid_no him2.out, eZ.out, show Pr.val Pr.zero = .agg #[.int .u64 0, .int .u64 0, .string ⟨#[]⟩] from rfl]
            replace O := Lib.hid ((O.out.below F).below (blA (Below.refl w9.heap.size w9) (.cells #[.int .u64 0, .int .u64 0, .string ⟨#[]⟩] 39)))
            rw [eX.out] at O
            have hV3 : Hid (valsAt pr (i + 1) m vs) := Lib.hid (fun q hq hqm => V.out q (by omega) hqm)
            clear F
            go_wp2
            go_roundw
            case rel => exact ⟨i + 1, by go_num, Lib.hid ⟨_, O.out, hV3.out⟩, hlH⟩
            case measure => have := hlH.out; simp [intOf]; omega
        · obtain rfl : N = i := by have := hi.out; omega
          clear hi hlt
          have hc := Lib.hid (mid_count (n := n) hmn.out.2)
          go_wp2_with fail
          refine (count_P O.out.R).mono ?_
          rintro e w5 ⟨rfl, rfl⟩
          rw [hc.out]
          go_wp2_with fail
          refine (region_P O.out.S (k := 0) (by simp)).mono ?_
          rintro e w5 ⟨rfl, rfl⟩
          go_wp2_with fail
          refine (count_P O.out.R0).mono ?_
          rintro e w5 ⟨rfl, rfl⟩
          rw [show ((List.replicate e0.n false).count true : Nat) = 0 by rw [List.count_replicate]; rfl]
          go_wp2_with fail
          refine (region_P O.out.S (k := 2) (by simp)).mono ?_
          rintro e w5 ⟨rfl, rfl⟩
          go_wp2_with fail
          refine (count_P O.out.R2).mono ?_
          rintro e w5 ⟨rfl, rfl⟩
          rw [show ((List.replicate e2.n false).count true : Nat) = 0 by rw [List.count_replicate]; rfl]
          go_wp2
          go_ret
          exact ⟨rfl, O.out.B⟩
end Go.Proofs.YtlkhpkdndmlnaaaDoor
