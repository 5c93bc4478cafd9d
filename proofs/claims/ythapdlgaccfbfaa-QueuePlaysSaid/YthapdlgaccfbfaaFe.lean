/- QueueFew. -/
import Derived.Test.YthapdlgaccfbfaaQuL
import Derived.Test.YthapdlgaccfbfaaRow
namespace Go.Proofs.Ythapdlgaccfbfaa
open Go.RowKit
set_option linter.unusedVariables false
set_option linter.unusedSimpArgs false
set_option linter.unusedSectionVars false
set_option maxRecDepth 100000

theorem mask31 (a : Int) : ∃ K : Nat, bits .and .i64 a 31 = (K : Int) ∧ K < 32 := by
  have := and_mask 5 31 (by decide) (by decide) a
  rw [show ((2 ^ 5 : Nat) : Int) = 32 from rfl] at this
  exact ⟨(a % 32).toNat, by rw [this]; omega, by omega⟩
theorem held_le {t d : Nat} {T : List Th} (ok : ∀ x ∈ T, okB t d x = true) (nd : T.Nodup) : heldT T ≤ d ∧ T.length ≤ t + heldT T := by
  have h2 : ∀ (c : Int) (n : Nat), (∀ x ∈ T, x.1 = c → 0 ≤ x.2 ∧ x.2 < n) → (T.filter (fun x => decide (x.1 = c))).length ≤ n := by
    intro c n hc
    have hl : ((T.filter (fun x => decide (x.1 = c))).map (fun x => x.2.toNat)).length ≤ n := by
      refine nodup_lt_length _ _ ?_ (fun y hy => ?_)
      · rw [List.Nodup, List.pairwise_map]
        refine List.Pairwise.imp_of_mem (R := fun a b => a ≠ b) (fun {a b} ha hb hab e => hab ?_) (nd.filter _)
        obtain ⟨ha1, ha2⟩ := List.mem_filter.1 ha
        obtain ⟨hb1, hb2⟩ := List.mem_filter.1 hb
        have a1 := hc a ha1 (by simpa using ha2); have b1 := hc b hb1 (by simpa using hb2)
        have a2 : a.1 = c := by simpa using ha2
        have b2 : b.1 = c := by simpa using hb2
        obtain ⟨p, q⟩ := a; obtain ⟨r, s⟩ := b
        simp only at *
        rw [a2, b2]; congr 1; omega
      · obtain ⟨x, hx, rfl⟩ := List.mem_map.1 hy
        obtain ⟨hx1, hx2⟩ := List.mem_filter.1 hx
        have := hc x hx1 (by simpa using hx2)
        omega
    rwa [List.length_map] at hl
  constructor
  · have := h2 2 d (fun x hx h => by rcases okB_iff.1 (ok x hx) with h1 | h1 <;> omega)
    rwa [← List.countP_eq_length_filter] at this
  · have h1 := h2 1 t (fun x hx h => by rcases okB_iff.1 (ok x hx) with h1 | h1 <;> omega)
    rw [← List.countP_eq_length_filter] at h1
    have h3 : T.length = T.countP (fun x => decide (x.1 = 1)) + heldT T := by
      unfold heldT
      have : ∀ (U : List Th), (∀ x ∈ U, x.1 = 1 ∨ x.1 = 2) → U.length = U.countP (fun x => decide (x.1 = 1)) + U.countP (fun x => decide (x.1 = 2)) := by
        intro U
        induction U with
        | nil => intro _; rfl
        | cons a U ih =>
          intro hU
          have := ih (fun x hx => hU x (by simp [hx]))
          rcases hU a (by simp) with h | h <;> simp [List.countP_cons, h] <;> omega
      exact this T (fun x hx => by rcases okB_iff.1 (ok x hx) with h | h <;> omega)
    omega
theorem push_held {t d mo : Nat} {T : List Th} {x : Th} (h : heldT T ≤ mo) : heldT (pushT t d mo T x) ≤ mo := by
  unfold pushT
  split
  · rename_i hp
    rw [heldT_snoc]
    unfold pushB at hp
    simp at hp
    by_cases hk : x.1 = 2
    · have := hp.1.2.resolve_left (fun h => h hk)
      rw [if_pos hk]; omega
    · rw [if_neg hk]; omega
  · exact h
theorem pushT_yes {t d mo : Nat} {T : List Th} {x : Th} (h : pushB t d mo T x = true) : pushT t d mo T x = T ++ [x] := by unfold pushT; rw [h]; rfl
theorem pushT_no {t d mo : Nat} {T : List Th} {x : Th} (h : pushB t d mo T x = false) : pushT t d mo T x = T := by unfold pushT; rw [h]; rfl

structure Tg where
  kind : Int
  index : Int
deriving DecidableEq, Inhabited
def Tg.cells (z : Tg) : List Value := [.int .i64 z.kind, .int .i64 z.index]
def Tg.good (z : Tg) : Prop := (Lit.int .i64 z.kind).wf = true ∧ (Lit.int .i64 z.index).wf = true
def Tg.val (z : Tg) : Value := .agg #[.int .i64 z.kind, .int .i64 z.index]
theorem el_Tg {H : Type} {enc : TypeId × Value → H} {w : World} : ∀ n cs x, DataW.trod enc Try.prog w 0 (fun _ => true) true n 27 cs = some x → ∃ z : Tg, cs = z.cells ∧ z.good := by
  intro n cs x h
  have hl := (struct_cells Try.underlying27 h).1
  rw [show Try.prog.cellsOf 27 = 2 by kernel_rfl] at hl
  obtain ⟨v0, v1, rfl⟩ : ∃ v0 v1 : Value, cs = [v0, v1] := by
    match cs, hl with
    | [v0, v1], _ => exact ⟨v0, v1, rfl⟩
  obtain ⟨-, n, f⟩ := struct_cells Try.underlying27 h
  obtain ⟨y_0, h_0⟩ := f 0 _ rfl
  replace h_0 : DataW.trod enc Try.prog w 0 (fun _ => true) true n 3 [v0] = some y_0 := h_0
  obtain ⟨a0, e0, g0⟩ := (el_int Try.underlying3) _ _ _ h_0
  obtain rfl : v0 = .int .i64 a0 := by simpa using e0
  obtain ⟨y_1, h_1⟩ := f 1 _ rfl
  replace h_1 : DataW.trod enc Try.prog w 0 (fun _ => true) true n 3 [v1] = some y_1 := h_1
  obtain ⟨a1, e1, g1⟩ := (el_int Try.underlying3) _ _ _ h_1
  obtain rfl : v1 = .int .i64 a1 := by simpa using e1
  exact ⟨⟨a0, a1⟩, rfl, ⟨g0, g1⟩⟩
def Tg.th (z : Tg) : Th := (z.kind, z.index)
set_option maxHeartbeats 8000000 in
theorem few_walk (a b m : Int) (A0 : Option Addr) (c0 : Nat) (xs : List Tg) (w : World) (hr : RowAt Tg.cells 2 w A0 xs) :
    Calls Try.prog 3 #[.int .i64 a, .int .i64 b, .int .i64 m, .slice A0 xs.length c0] w fun e w' => e = .returned (.bool true) ∧ Below w.heap.size w w' := by
  have HR := Lib.hid hr
  clear hr
  by_cases hbig : 60 < xs.length
  · have hb1 : decide ((60 : Int) < (xs.length : Int)) = true := by simp; omega
    go_enter Try.func3, Try.ntmps3
    go_wp2_with fail
    refine (alive12_c w).mono ?_
    rintro e w1 ⟨rfl, hB1⟩
    have HB1 := Lib.hid hB1
    clear hB1
    go_wp2
    go_ret
    exact ⟨rfl, HB1.out⟩
  have hb1 : decide ((60 : Int) < (xs.length : Int)) = false := by simp; omega
  obtain ⟨t, ht, ht2⟩ := mask31 a
  obtain ⟨d, hd, hd2⟩ := mask31 b
  obtain ⟨mo, hm, hm2⟩ := mask31 m
  replace hbig := Lib.hid hbig
  go_enter Try.func3, Try.ntmps3
  go_wp2_with fail
  refine (alive12_c w).mono ?_
  rintro e w1 ⟨rfl, hB1⟩
  go_wp2_with fail
  refine (newQ_c w1 t d mo t d mo (by unfold mx0; omega) (by unfold mx0; omega) (by unfold mx0; omega) (by omega)).mono ?_
  rintro e w2 ⟨q, p, L, M, rfl, S, l1, l2, l3, l4, B⟩
  have S0 := StQ.new hB1 S l1 l2 l3 l4 B
  have B0 := Below.alloc (Below.refl w2.heap.size w2) (Nat.le_refl _) (.cells #[] 27)
  have S1 := Lib.hid (S0.below B0)
  have O1 := Lib.hid (show OwnE thE (w2.alloc (.cells #[] 27)) w2.heap.size (.slice (some ⟨w2.heap.size, 0, none⟩) 0 0) [] from OwnE.lit (E := thE) w2 w2.heap.size (Nat.le_refl _) [] #[] rfl (by simp))
  have hE := Lib.hid (And.intro S0.s.lt S0.b.size)
  have hEs := Lib.hid (show w2.heap.size ≤ (w2.alloc (.cells #[] 27)).heap.size by simp)
  obtain ⟨mn, hmn⟩ : ∃ mn, mn = min d mo := ⟨_, rfl⟩
  have hmin1 : (if (mo : Int) < (d : Int) then (mo : Int) else (d : Int)) = (mn : Int) := by rw [hmn]; split <;> omega
  have hmin2 : (if mo < d then (mo : Int) else (d : Int)) = (mn : Int) := by rw [hmn]; split <;> omega
  have ewt : wrap64 ((t : Int) + mn) = (t : Int) + mn := by unfold wrap64; omega
  replace hmn := Lib.hid hmn
  clear hB1 S l1 l2 l3 l4 B S0 B0
  go_wp2_with fail
  generalize w2.alloc (.cells #[] 27) = W2 at *
  generalize w2.heap.size = E at *
  go_loopw [10, 37] (fun v ii wr => ∃ (i : Nat) (T : List Th), ii = .int .i64 i ∧ Hid (StQ w wr q p L M t d mo T) ∧ Hid (OwnE thE wr E v T) ∧ Hid (heldT T ≤ mo) ∧ Hid (T.length ≤ i) ∧ Hid (i ≤ xs.length) ∧ Hid (E ≤ wr.heap.size)) (fun _ ii _ => xs.length - (intOf ii).toNat)
  case atStart => exact ⟨0, [], rfl, S1, O1, Lib.hid (Nat.zero_le _), Lib.hid (Nat.le_refl _), Lib.hid (Nat.zero_le _), hEs⟩
  case round =>
    clear S1 O1 hEs
    obtain ⟨i, T, rfl, S, O, hh, hT, hi, hEs⟩ := hrel
    by_cases hlt : i < xs.length
    · have hi61 : i < 61 := by have := hbig.out; omega
      obtain ⟨b, off, rfl, hbl, hc⟩ := HR.out i hlt
      have hz0 := (S.out.b.cell (p := ⟨b, off + i * 2 + 0, none⟩) hbl).trans (hc 0 _ rfl)
      have hz1 := (S.out.b.cell (p := ⟨b, off + i * 2 + 1, none⟩) hbl).trans (hc 1 _ rfl)
      rw [Nat.add_zero] at hz0
      obtain ⟨x, hx⟩ : ∃ x : Th, x = (xs[i].kind, xs[i].index) := ⟨_, rfl⟩
      have hx1 : xs[i].kind = x.1 := by rw [hx]
      have hx2 : xs[i].index = x.2 := by rw [hx]
      rw [hx1] at hz0
      rw [hx2] at hz1
      clear hc hbl hx hx1 hx2
      have hB0 := Below.alloc (Below.refl wr.heap.size wr) (Nat.le_refl _) (.cells #[.int .i64 x.1, .int .i64 x.2] 27)
      have S1 := Lib.hid (S.out.below hB0)
      have O1 := Lib.hid (O.out.below hB0)
      have y0 := Lib.hid (Cel.new wr #[.int .i64 x.1, .int .i64 x.2] 27 0 _ rfl)
      have y1 := Lib.hid (Cel.new wr #[.int .i64 x.1, .int .i64 x.2] 27 1 _ rfl)
      have hYl := Lib.hid S.out.s.lt
      have hE1 := Lib.hid (Nat.le_trans hEs.out hB0.size)
      clear S O hB0 hEs
      go_wp2_with fail
      generalize wr.alloc (.cells #[.int .i64 x.1, .int .i64 x.2] 27) = wz at *
      generalize wr.heap.size = Y at *
      refine (pushQ_c S1.out.s x).mono ?_
      rintro e w5 ⟨rfl, K, F⟩
      have S2 := S1.out.op K F
      have O2 := Lib.hid (O1.out.fr F (fun k o hk hs => by have h1 := (O1.out.lt k hk).1; have := hE.out; rcases hs with h | h | h <;> omega))
      have hYn : ∀ o, ¬ quS q L M Y o := fun o hs => by have := hYl.out; rcases hs with h | h | h <;> omega
      have v0 := (y0.out.fr F (hYn _)).1; have v1 := (y1.out.fr F (hYn _)).1
      have hh2 := push_held (t := t) (d := d) (mo := mo) (T := T) (x := x) hh.out
      have hE2 := Lib.hid (Nat.le_trans hE1.out F.size)
      clear K F S1 O1 hYn hz0 hz1 y0 y1 hE1
      cases hp : pushB t d mo T x with
      | false =>
        rw [pushT_no hp] at S2 hh2
        obtain ⟨b1, b2⟩ := held_le S2.s.ok S2.s.nd
        have d1 : decide ((t : Int) + (mn : Int) < (T.length : Int)) = false := by have := hmn.out; simp; omega
        have d2 : decide ((mn : Int) < (heldT T : Int)) = false := by have := hmn.out; simp; omega
        have d2' : decide (mn < heldT T) = false := by have := hmn.out; simp; omega
        replace S2 := Lib.hid S2
        replace hh2 := Lib.hid hh2
        obtain ⟨A, c, rfl, _⟩ := O2.out.slice
        clear hp b1 b2 v0 v1 hh
        go_wp2_with fail
        refine (lenQ_c S2.out.s).mono ?_
        rintro e w6 ⟨rfl, rfl⟩
        go_wp2_with fail
        refine (devsQ_c S2.out.s).mono ?_
        rintro e w6 ⟨rfl, rfl⟩
        go_wp2_with fail
        refine (lenQ_c S2.out.s).mono ?_
        rintro e w6 ⟨rfl, rfl⟩
        go_wp2
        go_roundw
        case rel => exact ⟨i + 1, T, by go_num, S2, O2, hh2, Lib.hid (by have := hT.out; omega), Lib.hid (by omega), hE2⟩
        case measure => simp [intOf]; omega
      | true =>
        rw [pushT_yes hp] at S2 hh2
        obtain ⟨b1, b2⟩ := held_le S2.s.ok S2.s.nd
        obtain ⟨T2, hT2⟩ : ∃ T2, T2 = T ++ [x] := ⟨_, rfl⟩
        rw [← hT2] at S2 hh2 b1 b2
        have d1 : decide ((t : Int) + (mn : Int) < (T2.length : Int)) = false := by have := hmn.out; simp; omega
        have d2 : decide ((mn : Int) < (heldT T2 : Int)) = false := by have := hmn.out; simp; omega
        have d2' : decide (mn < heldT T2) = false := by have := hmn.out; simp; omega
        replace S2 := Lib.hid S2
        replace hh2 := Lib.hid hh2
        have htl := Lib.hid (show T.length ≤ 100000 by have := hT.out; omega)
        have Q2 := Lib.hid (rowAt_new1 (E := thE) (B := w5.heap.size) w5 #[.int .i64 x.1, .int .i64 x.2] 27 x rfl rfl)
        have hBa := Below.alloc (Below.refl w5.heap.size w5) (Nat.le_refl _) (.cells #[.int .i64 x.1, .int .i64 x.2] 27)
        have S3 := Lib.hid (S2.out.below hBa)
        have hE3 := Lib.hid (Nat.le_trans hE2.out hBa.size)
        have hT3 := Lib.hid (show T2.length ≤ i + 1 by rw [hT2]; have := hT.out; simp; omega)
        replace hT2 := Lib.hid hT2
        clear hp b1 b2 hBa hh
        go_wp2_with (first | (at_builtin; refine append_rowE (E := thE) (ys := [x]) rfl rfl Try.underlying22 rfl (O2.out.alloc _) rfl Q2.out rfl (Nat.le_trans htl.out (by decide)) (by simp) hE3.out ?_))
        intro v' w6 G1 G2 G3 G4
        have G := Lib.hid (show OwnE thE w6 E v' T2 by rw [hT2.out]; exact G1)
        have S4 := Lib.hid (S3.out.low G2 hE.out.1 hE.out.2)
        have hE4 := Lib.hid (Nat.le_trans hE3.out G2.size)
        obtain ⟨A, c, rfl, _⟩ := G.out.slice
        clear G1 G2 G3 G4 S3 Q2 O2 v0 v1 S2
        go_wp2_with fail
        refine (lenQ_c S4.out.s).mono ?_
        rintro e w7 ⟨rfl, rfl⟩
        go_wp2_with fail
        refine (devsQ_c S4.out.s).mono ?_
        rintro e w7 ⟨rfl, rfl⟩
        go_wp2_with fail
        refine (lenQ_c S4.out.s).mono ?_
        rintro e w7 ⟨rfl, rfl⟩
        go_wp2
        go_roundw
        case rel => exact ⟨i + 1, T2, by go_num, S4, G, hh2, hT3, Lib.hid (by omega), hE4⟩
        case measure => simp [intOf]; omega
    · obtain ⟨A, c, rfl, _⟩ := O.out.slice
      have hT60 := Lib.hid (show T.length ≤ 60 by have := hT.out; have := hi.out; have := hbig.out; omega)
      have S' := Lib.hid (show StQ w wr q p L M t d mo (T.drop 0) from S.out)
      clear S
      go_wp2_with fail
      clear hlt hi hT hmin1 hmin2 ewt hh
      go_loopw [74] (fun jj wr2 => ∃ (j : Nat), jj = .int .i64 j ∧ Hid (StQ w wr2 q p L M t d mo (T.drop j)) ∧ Hid (OwnE thE wr2 E (.slice A T.length c) T) ∧ Hid (j ≤ T.length)) (fun jj _ => T.length - (intOf jj).toNat)
      case atStart => exact ⟨0, rfl, S', O, Lib.hid (Nat.zero_le _)⟩
      case round =>
        clear S' O
        obtain ⟨j, rfl, S, O, hj⟩ := hrel
        by_cases hlt : j < T.length
        · have hj61 : j < 61 := by have := hT60.out; omega
          obtain ⟨g, c', e, hgE, hgs, _⟩ := O.out.pos (by omega)
          injection e with e1 e2 e3
          subst e1; subst e3
          have hgl : g < wr.heap.size := hgs
          obtain ⟨⟨k0, -⟩, ⟨k1, -⟩⟩ := O.out.atT hlt
          have hdr : T.drop j = T[j] :: T.drop (j + 1) := List.drop_eq_getElem_cons hlt
          rw [hdr] at S
          generalize T[j] = x at *
          have hB0 := Below.alloc (Below.refl wr.heap.size wr) (Nat.le_refl _) (.cells #[.int .i64 x.1, .int .i64 x.2] 27)
          have S1 := Lib.hid (S.out.below hB0)
          have O1 := Lib.hid (O.out.below hB0)
          have y0 := Lib.hid (Cel.new wr #[.int .i64 x.1, .int .i64 x.2] 27 0 _ rfl)
          have y1 := Lib.hid (Cel.new wr #[.int .i64 x.1, .int .i64 x.2] 27 1 _ rfl)
          have hYl := Lib.hid S.out.s.lt
          replace hgE := Lib.hid hgE
          clear hB0 S O hdr e2
          go_wp2_with fail
          generalize wr.alloc (.cells #[.int .i64 x.1, .int .i64 x.2] 27) = wz at *
          generalize wr.heap.size = Y at *
          refine (popQ_c S1.out.s).mono ?_
          rintro e w5 ⟨rfl, K, F⟩
          rw [show (x :: T.drop (j + 1)).headD (0, 0) = x from rfl, show decide (x :: T.drop (j + 1) ≠ []) = true from rfl]
          have S2 := S1.out.op K F
          rw [List.tail_cons] at S2
          have O2 := O1.out.fr F (fun k o hk hs => by have h1 := (O1.out.lt k hk).1; have := hE.out; rcases hs with h | h | h <;> omega)
          have hYn : ∀ o, ¬ quS q L M Y o := fun o hs => by have := hYl.out; rcases hs with h | h | h <;> omega
          have F2 := Fr.alloc (Fr.refl (fun _ _ => False) w5) (.cells #[.int .i64 x.1, .int .i64 x.2] 27)
          have B2 := Below.alloc (Below.refl w5.heap.size w5) (Nat.le_refl _) (.cells #[.int .i64 x.1, .int .i64 x.2] 27)
          have v0 := ((y0.out.fr F (hYn _)).alloc (.cells #[.int .i64 x.1, .int .i64 x.2] 27)).1; have v1 := ((y1.out.fr F (hYn _)).alloc (.cells #[.int .i64 x.1, .int .i64 x.2] 27)).1
          have S3 := Lib.hid (S2.below B2)
          have O3 := Lib.hid (O2.below B2)
          have heq := eqThT (rfl : x = x)
          clear K F S1 O1 S2 O2 hYn k0 k1 y0 y1 F2 B2
          dsimp only [thV]
          go_wp2
          go_roundw
          case rel => exact ⟨j + 1, by go_num, S3, O3, Lib.hid (by omega)⟩
          case measure => simp [intOf]; omega
        · have S2 := Lib.hid (show StQ w wr q p L M t d mo [] by have := S.out; rwa [List.drop_of_length_le (by omega)] at this)
          clear S O
          go_wp2_with fail
          clear hlt
          refine (popQ_c S2.out.s).mono ?_
          rintro e w5 ⟨rfl, K, F⟩
          have S3 := S2.out.op K F
          rw [show ([] : List Th).headD (0, 0) = (0, 0) from rfl, show decide (([] : List Th) ≠ []) = false from rfl]
          rw [show ([] : List Th).tail = [] from rfl] at S3
          have B2 := Below.alloc (Below.refl w5.heap.size w5) (Nat.le_refl _) (.cells #[.int .i64 0, .int .i64 0] 27)
          have S4 := Lib.hid (S3.below B2)
          clear K F S2 S3 B2
          dsimp only [thV]
          go_wp2_with fail
          refine (devsQ_c S4.out.s).mono ?_
          rintro e w6 ⟨rfl, rfl⟩
          rw [show heldT [] = 0 from rfl]
          go_wp2
          go_ret
          exact ⟨rfl, S4.out.b⟩
end Go.Proofs.Ythapdlgaccfbfaa
