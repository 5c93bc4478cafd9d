/- ChainMoves. -/
import Derived.Test.YtdgcppglpmlgkaaOpC
namespace Go.Proofs.Ytdgcppglpmlgkaa
open Go.RowKit
set_option linter.unusedVariables false
set_option linter.unusedSimpArgs false

theorem ChI.nd {w : World} {p L M n m : Nat} {R : Nat → List Nat} (h : ChI w p L M n m R) (j : Nat) : (R j).Nodup := by
  obtain ⟨s, h1, rfl, rfl, h2⟩ := h
  by_cases hj : j < s.m
  · exact h2.nodup j hj
  · rw [h2.none j (by omega)]; exact List.nodup_nil
theorem ChI.mem {w : World} {p L M n m : Nat} {R : Nat → List Nat} (h : ChI w p L M n m R) {j x : Nat} (hx : x ∈ R j) : j < m ∧ x < n := by
  obtain ⟨s, h1, rfl, rfl, h2⟩ := h
  by_cases hj : j < s.m
  · exact ⟨hj, (h2.mem j hj x hx).1⟩
  · rw [h2.none j (by omega)] at hx; cases hx
theorem ChI.uniq {w : World} {p L M n m : Nat} {R : Nat → List Nat} (h : ChI w p L M n m R) {i j x : Nat} (hx : x ∈ R i) (hy : x ∈ R j) : i = j := by
  have a1 := h.mem hx
  have a2 := h.mem hy
  obtain ⟨s, h1, rfl, rfl, h2⟩ := h
  have b1 := (h2.mem i a1.1 x hx).2
  have b2 := (h2.mem j a2.1 x hy).2
  omega
theorem isOn2 (R : Nat → List Nat) (k : Nat) : isOn 2 R k = (decide (k ∈ R 0) || decide (k ∈ R 1)) := by
  simp [isOn, List.range_succ]
theorem onAt1 {R : Nat → List Nat} {k : Nat} (h0 : k ∉ R 0) (h1 : k ∈ R 1) : onAt 2 R k = 1 := by
  simp [onAt, List.range_succ, h0, h1]

/-- The head of list 0 goes to the end of list 1. -/
theorem move_pull {w : World} {p L M : Nat} {R : Nat → List Nat} (h : ChI w p L M 64 2 R) {k : Nat} {t : List Nat} (h0 : R 0 = k :: t) :
    onB 2 R k = true ∧ (pullR 2 R k) 0 = t ∧ (pullR 2 R k) 1 = R 1 ∧ canPush 64 2 (pullR 2 R k) 1 k = true := by
  have hk0 : k ∈ R 0 := by rw [h0]; simp
  have hk1 : k ∉ R 1 := fun hm => absurd (h.uniq hk0 hm) (by decide)
  have hon : onB 2 R k = true := by unfold onB; rw [Int.toNat_natCast, isOn2]; simp [hk0]
  have e0 : (pullR 2 R k) 0 = t := by unfold pullR; rw [if_pos hon, Int.toNat_natCast]; simp [h0]
  have e1 : (pullR 2 R k) 1 = R 1 := by unfold pullR; rw [if_pos hon, Int.toNat_natCast]; exact List.erase_of_not_mem hk1
  refine ⟨hon, e0, e1, ?_⟩
  have hlt := (h.mem hk0).2
  have hkt : k ∉ t := by
    have := h.nd 0
    rw [h0] at this
    exact (List.nodup_cons.1 this).1
  unfold canPush
  rw [Int.toNat_natCast, isOn2, e0, e1]
  simp [hkt, hk1]
  omega
theorem push_at {R : Nat → List Nat} {j k : Nat} {n m : Nat} (hc : canPush n m R j k = true) : pushR n m R j k = updR R j (R j ++ [k]) := by
  unfold pushR; rw [if_pos hc, Int.toNat_natCast, Int.toNat_natCast]
theorem push_off {R : Nat → List Nat} {j k : Int} {n m : Nat} (hc : canPush n m R j k = false) : pushR n m R j k = R := by
  unfold pushR; rw [if_neg (by simp [hc])]

theorem natsI_snoc (l : List Nat) (k : Nat) : natsI l ++ [(k : Int)] = natsI (l ++ [k]) := by simp [natsI]
theorem natsI_len (l : List Nat) : (natsI l).length = l.length := by simp [natsI]

set_option maxHeartbeats 8000000 in
set_option maxRecDepth 100000 in
theorem moves_walk (A1 : Option Addr) (c1 : Nat) (xs : List Int) (A2 : Option Addr) (c2 : Nat) (ms : List Bool) (w : World) (hr1 : RowAt intCells 1 w A1 xs) (hr2 : RowAt (fun b : Bool => [Value.bool b]) 1 w A2 ms) :
    Calls Try.prog 9 #[.slice A1 xs.length c1, .slice A2 ms.length c2] w fun e w' => e = .returned (.bool true) ∧ Below w.heap.size w w' := by
  by_cases hbig : 50 < xs.length
  · have hb1 : decide ((50 : Int) < (xs.length : Int)) = true := by simp; omega
    go_enter Try.func9, Try.ntmps9
    go_wp2_with fail
    refine (alive_c w).mono ?_
    rintro e w1 ⟨rfl, hB1⟩
    have HB1 := Lib.hid hB1
    clear hB1
    go_wp2
    go_ret
    exact ⟨rfl, HB1.out⟩
  have hb1 : decide ((50 : Int) < (xs.length : Int)) = false := by simp; omega
  by_cases hbig2 : 100 < ms.length
  · have hb2 : decide ((100 : Int) < (ms.length : Int)) = true := by simp; omega
    go_enter Try.func9, Try.ntmps9
    go_wp2_with fail
    refine (alive_c w).mono ?_
    rintro e w1 ⟨rfl, hB1⟩
    have HB1 := Lib.hid hB1
    clear hB1
    go_wp2
    go_ret
    exact ⟨rfl, HB1.out⟩
  have hb2 : decide ((100 : Int) < (ms.length : Int)) = false := by simp; omega
  replace hbig := Lib.hid hbig; replace hbig2 := Lib.hid hbig2
  have HR1 := Lib.hid hr1; have HR2 := Lib.hid hr2
  clear hr1 hr2
  go_enter Try.func9, Try.ntmps9
  go_wp2_with fail
  refine (alive_c w).mono ?_
  rintro e w1 ⟨rfl, hB1⟩
  have HB1 := Lib.hid hB1
  clear hB1
  go_wp2_with fail
  refine (new_i w1 64 2 64 2 rfl rfl).mono ?_
  rintro e w2 ⟨p, L, M, rfl, G, bp, bL, bM, B2⟩
  have HB2 := Lib.hid (HB1.out.trans (B2.mono HB1.out.size))
  have hL := Lib.hid (show w.heap.size ≤ L ∧ L < w2.heap.size from ⟨Nat.le_trans HB1.out.size bL, G.lt.2.1⟩)
  have hp := Lib.hid G.lt.1
  have hM := Lib.hid (show w.heap.size ≤ M ∧ M < w2.heap.size from ⟨Nat.le_trans HB1.out.size bM, G.lt.2.2.1⟩)
  clear bp bL bM B2 HB1
  have Ba := Below.alloc (Below.refl w2.heap.size w2) (Nat.le_refl _) (.cells #[] 3)
  have Bb := Ba.alloc Ba.size (.cells #[] 3)
  have O1 := Lib.hid ((OwnI.lit w2 w2.heap.size (Nat.le_refl _) [] #[] rfl (by simp)).alloc (.cells #[] 3))
  have O2 := Lib.hid (OwnI.lit (w2.alloc (.cells #[] 3)) w2.heap.size (by simp) [] #[] rfl (by simp))
  have G2 := Lib.hid (G.below Bb (Nat.le_refl _))
  have HB3 := Lib.hid (HB2.out.trans (Bb.mono HB2.out.size))
  have hsz := Lib.hid (Nat.le_trans HB2.out.size Bb.size)
  have hge := Lib.hid (show w2.heap.size ≤ ((w2.alloc (.cells #[] 3)).alloc (.cells #[] 3)).heap.size from Bb.size)
  rw [World.size_alloc] at O2
  have hne := Lib.hid (show w2.heap.size ≠ w2.heap.size + 1 by omega)
  have hge2 := Lib.hid HB2.out.size
  clear Ba Bb G HB2
  go_wp2_with fail
  replace hL := Lib.hid (show w.heap.size ≤ L ∧ L < w2.heap.size from hL.out)
  generalize ((w2.alloc (.cells #[] 3)).alloc (.cells #[] 3)) = w3 at *
  generalize w2.heap.size = S at *
  go_loopw [6, 33] (fun v kk wr => ∃ (i : Nat) (R : Nat → List Nat), kk = .int .i64 i ∧ Hid (i ≤ xs.length) ∧ Hid (ChI wr p L M 64 2 R) ∧ Hid (R 1 = []) ∧ Hid (OwnI wr S v (natsI (R 0))) ∧ Hid (OwnI wr S (.slice (some ⟨S + 1, 0, none⟩) 0 0) []) ∧ Hid (v.ownBlock ≠ some (S + 1)) ∧ Hid (Below w.heap.size w wr) ∧ Hid (S ≤ wr.heap.size)) (fun v kk _ => xs.length - (intOf kk).toNat)
  case atStart => exact ⟨0, c0, rfl, Lib.hid (Nat.zero_le _), G2, Lib.hid rfl, O1, O2, Lib.hid (fun e => by injection e with e; simp at e), HB3, hge⟩
  case round =>
    obtain ⟨i, R, rfl, h1, K, hR1, Oi, Oo, hn, HB, hS⟩ := hrel
    clear G2 O1 O2 HB3 hge hsz
    by_cases hlt : i < xs.length
    · have hi50 : i < 50 := by have := hbig.out; omega
      obtain ⟨b, off, rfl, hc⟩ := RowAt.get HR1.out hlt
      have hz := (HB.out.cell (by exact World.block_lt_of_cell? w _ hc)).trans hc
      generalize xs.getD i 0 = z at *
      clear hc
      obtain ⟨kn, hK, hk64⟩ := mask63 z
      go_wp2_with fail
      refine (push_i K.out 0 kn).mono ?_
      rintro e w5 ⟨rfl, X, F5⟩
      have Oi5 := Lib.hid (Oi.out.fr F5 (fun k o hk hs => by have := hL.out; have := hM.out; rcases hs with h | h <;> omega))
      have Oo5 := Lib.hid (Oo.out.fr F5 (fun k o hk hs => by have := hL.out; have := hM.out; rcases hs with h | h <;> omega))
      have HB5 := below_chain HB F5 (Nat.le_refl _) hL.out.1 hM.out.1
      have hS5 := Lib.hid (Nat.le_trans hS.out F5.size)
      clear K Oi Oo HB F5 hS
      cases hb : canPush 64 2 R 0 kn with
      | false =>
        rw [push_off hb] at X
        replace X := Lib.hid X
        clear hb
        go_wp2
        go_roundw
        case rel => exact ⟨i + 1, R, by go_num, Lib.hid (by omega), X, hR1, Oi5, Oo5, hn, HB5, hS5⟩
        case measure => simp [intOf]; omega
      | true =>
        have hp := push_at (j := 0) hb
        have hX0 : (pushR 64 2 R 0 kn) 0 = R 0 ++ [kn] := by have e : pushR 64 2 R 0 kn = _ := hp; rw [e, updR_same]
        have hX1 : (pushR 64 2 R 0 kn) 1 = R 1 := by have e : pushR 64 2 R 0 kn = _ := hp; rw [e, updR_other (by decide)]
        have hlen := X.rowLen 0
        have hl0 : (natsI (R 0)).length ≤ 100000000 := by
          have e : rowI (pushR 64 2 R 0 kn) 0 = R 0 ++ [kn] := hX0
          rw [e, List.length_append] at hlen
          rw [natsI_len]; omega
        replace hX0 := Lib.hid hX0; replace hX1 := Lib.hid hX1
        replace X := Lib.hid X
        generalize pushR 64 2 R 0 kn = R' at *
        clear hb hp hlen
        have hsz5 : S ≤ (w5.alloc (.cells #[.int .i64 kn] 3)).heap.size := by have := hS5.out; simp; omega
        go_wp2_with (first | (at_builtin; refine append_int rfl rfl Try.underlying40 rfl (Oi5.out.alloc _) rfl (cell_new1 _ _ _) hl0 hsz5 ?_))
        intro v' w6 P1 P2 P3 P4
        have P5 : Below S w5 w6 := (Below.alloc (Below.refl S w5) hS5.out _).trans P2
        have X6 := Lib.hid (X.out.low P5 hp.out hL.out.2 hM.out.2)
        have Oo6 := Lib.hid ((Oo5.out.alloc (.cells #[.int .i64 kn] 3)).beside P3 (.inl hn.out))
        have HB6 := Lib.hid (HB5.out.trans (P5.mono (Nat.le_trans hL.out.1 (Nat.le_of_lt hL.out.2))))
        have hS6 := Lib.hid (Nat.le_trans hS5.out P5.size)
        rw [natsI_snoc, ← hX0.out] at P1
        replace P1 := Lib.hid P1
        have hn6 : Hid (v'.ownBlock ≠ some (S + 1)) := by
          refine Lib.hid ?_
          rcases P4 with e | e
          · rw [e]; exact hn.out
          · rw [e]
            intro e2
            injection e2 with e2
            have := (Oo5.out.lt (S + 1) rfl).2
            simp at e2
            omega
        have hR6 := Lib.hid (hX1.out.trans hR1.out)
        clear X Oi5 Oo5 HB5 hS5 P2 P3 P4 P5 hsz5 hl0 hX0 hX1 hR1 hn
        go_wp2
        go_roundw
        case rel => exact ⟨i + 1, R', by go_num, Lib.hid (by omega), X6, hR6, P1, Oo6, hn6, HB6, hS6⟩
        case measure => simp [intOf]; omega
    · have hins : R 1 ++ R 0 = R 0 := by rw [hR1.out]; rfl
      have hO : OwnI wr S (.slice (some ⟨S + 1, 0, none⟩) 0 0) (natsI (R 1)) := by rw [hR1.out]; exact Oo.out
      have hl50 := Lib.hid (K.out.rowLen 0)
      obtain ⟨ins, hI⟩ : ∃ ins, ins = R 0 := ⟨_, rfl⟩
      rw [← hI] at Oi
      have hl50' : ins.length ≤ 8192 := by rw [hI]; exact hl50.out
      replace hins := Lib.hid (hins.trans hI.symm)
      replace hO := Lib.hid hO
      have hne2 := Lib.hid (show (Value.slice (some ⟨S + 1, 0, none⟩) 0 0).ownBlock ≠ u6.ownBlock from fun e => hn.out e.symm)
      replace hl50' := Lib.hid hl50'
      clear h1 hR1 Oo hn hl50 hI
      go_wp2_with fail
      go_loopw [7, 49] (fun vo kk wr => ∃ (i : Nat) (R : Nat → List Nat), kk = .int .i64 i ∧ Hid (i ≤ ms.length) ∧ Hid (ChI wr p L M 64 2 R) ∧ Hid (R 1 ++ R 0 = ins) ∧ Hid (OwnI wr S u6 (natsI ins)) ∧ Hid (OwnI wr S vo (natsI (R 1))) ∧ Hid (vo.ownBlock ≠ u6.ownBlock) ∧ Hid (Below w.heap.size w wr) ∧ Hid (S ≤ wr.heap.size)) (fun vo kk _ => ms.length - (intOf kk).toNat)
      case atStart => exact ⟨0, R, rfl, Lib.hid (Nat.zero_le _), K, hins, Oi, hO, hne2, HB, hS⟩
      case round =>
        clear K hins Oi hO hne2 HB hS
        obtain ⟨i, R, rfl, h1, K, hR1, Oi, Oo, hn, HB, hS⟩ := hrel
        by_cases hlt : i < ms.length
        · have hi50 : i < 100 := by have := hbig2.out; omega
          obtain ⟨b, off, rfl, hbl, hc⟩ := HR2.out i hlt
          have hz := (HB.out.cell (p := ⟨b, off + i * 1 + 0, none⟩) hbl).trans (hc 0 _ rfl)
          rw [Nat.mul_one, Nat.add_zero] at hz
          generalize ms[i] = z at *
          clear hc hbl
          go_wp2_with fail
          refine (first_i K.out 0).mono ?_
          rintro e w5 ⟨rfl, rfl⟩
          clear hz
          cases h0 : R 0 with
          | nil =>
            have e1 : rowI R 0 = [] := h0
            rw [e1]
            have HK := Lib.hid h0
            clear e1 h0
            go_wp2
            go_roundw
            case rel => exact ⟨i + 1, R, by go_num, Lib.hid (by omega), K, hR1, Oi, Oo, hn, HB, hS⟩
            case measure => simp [intOf]; omega
          | cons k t =>
            have e1 : rowI R 0 = k :: t := h0
            rw [e1]
            simp only [hdOr]
            clear e1
            cases z with
            | false =>
              replace h0 := Lib.hid h0
              go_wp2
              go_roundw
              case rel => exact ⟨i + 1, R, by go_num, Lib.hid (by omega), K, hR1, Oi, Oo, hn, HB, hS⟩
              case measure => simp [intOf]; omega
            | true =>
              obtain ⟨m1, m2, m3, m4⟩ := move_pull K.out h0
              have hk64 := (K.out.mem (show k ∈ R 0 by rw [h0]; simp)).2
              replace m1 := Lib.hid m1; replace m2 := Lib.hid m2; replace m3 := Lib.hid m3; replace m4 := Lib.hid m4
              replace h0 := Lib.hid h0
              go_wp2_with fail
              refine (pull_i K.out k).mono ?_
              rintro e w5 ⟨rfl, X, F5⟩
              rw [m1.out]
              have Oi5 := Lib.hid (Oi.out.fr F5 (fun k o hk hs => by have := hL.out; have := hM.out; rcases hs with h | h <;> omega))
              have Oo5 := Lib.hid (Oo.out.fr F5 (fun k o hk hs => by have := hL.out; have := hM.out; rcases hs with h | h <;> omega))
              have HB5 := below_chain HB F5 (Nat.le_refl _) hL.out.1 hM.out.1
              have hS5 := Lib.hid (Nat.le_trans hS.out F5.size)
              clear K Oi Oo HB F5 hS
              go_wp2_with fail
              refine (push_i X 1 k).mono ?_
              rintro e w6 ⟨rfl, Y, F6⟩
              rw [m4.out]
              have Oi6 := Lib.hid (Oi5.out.fr F6 (fun k o hk hs => by have := hL.out; have := hM.out; rcases hs with h | h <;> omega))
              have Oo6 := Lib.hid (Oo5.out.fr F6 (fun k o hk hs => by have := hL.out; have := hM.out; rcases hs with h | h <;> omega))
              have HB6 := below_chain HB5 F6 (Nat.le_refl _) hL.out.1 hM.out.1
              have hS6 := Lib.hid (Nat.le_trans hS5.out F6.size)
              have hp2 := push_at (j := 1) m4.out
              have hX1 : (pushR 64 2 (pullR 2 R k) 1 k) 1 = R 1 ++ [k] := by have e : pushR 64 2 (pullR 2 R k) 1 k = _ := hp2; rw [e, updR_same, m3.out]
              have hX0 : (pushR 64 2 (pullR 2 R k) 1 k) 0 = t := by have e : pushR 64 2 (pullR 2 R k) 1 k = _ := hp2; rw [e, updR_other (by decide), m2.out]
              have hlen := Y.rowLen 1
              have hl0 : (natsI (R 1)).length ≤ 100000000 := by
                have e : rowI (pushR 64 2 (pullR 2 R k) 1 k) 1 = R 1 ++ [k] := hX1
                rw [e, List.length_append] at hlen
                rw [natsI_len]; omega
              have hins' : (pushR 64 2 (pullR 2 R k) 1 k) 1 ++ (pushR 64 2 (pullR 2 R k) 1 k) 0 = ins := by rw [hX1, hX0, ← hR1.out, h0.out]; simp
              replace hins' := Lib.hid hins'; replace hX1 := Lib.hid hX1
              replace Y := Lib.hid Y
              clear X Oi5 Oo5 HB5 F6 hS5 hp2 hX0 hlen m2 m3 m4 m1
              generalize pushR 64 2 (pullR 2 R k) 1 k = R' at *
              have hsz5 : S ≤ (w6.alloc (.cells #[.int .i64 k] 3)).heap.size := by have := hS6.out; simp; omega
              go_wp2_with (first | (at_builtin; refine append_int rfl rfl Try.underlying40 rfl (Oo6.out.alloc _) rfl (cell_new1 _ _ _) hl0 hsz5 ?_))
              intro v' w7 P1 P2 P3 P4
              have P5 : Below S w6 w7 := (Below.alloc (Below.refl S w6) hS6.out _).trans P2
              have Y7 := Lib.hid (Y.out.low P5 hp.out hL.out.2 hM.out.2)
              have Oi7 := Lib.hid ((Oi6.out.alloc (.cells #[.int .i64 k] 3)).beside P3 (.inl hn.out))
              have HB7 := Lib.hid (HB6.out.trans (P5.mono (Nat.le_trans hL.out.1 (Nat.le_of_lt hL.out.2))))
              have hS7 := Lib.hid (Nat.le_trans hS6.out P5.size)
              rw [natsI_snoc, ← hX1.out] at P1
              replace P1 := Lib.hid P1
              have hn7 : Hid (v'.ownBlock ≠ u6.ownBlock) := by
                refine Lib.hid ?_
                rcases P4 with e | e
                · rw [e]; exact hn.out
                · rw [e]
                  intro e2
                  have q := (Oi6.out.lt _ e2.symm).2
                  omega
              clear Y Oi6 Oo6 HB6 hS6 P2 P3 P4 P5 hsz5 hl0 hX1 hR1 hn
              go_wp2
              go_roundw
              case rel => exact ⟨i + 1, R', by go_num, Lib.hid (by omega), Y7, hins', Oi7, P1, hn7, HB7, hS7⟩
              case measure => simp [intOf]; omega
        · clear h1
          replace HB := Lib.hid HB.out
          have bdi := Lib.hid (show ins.length ≤ 8192 from hl50'.out)
          go_wp2_with fail
          have E0 := Lib.hid (OwnI.lit wr wr.heap.size (Nat.le_refl _) [] #[] rfl (by simp))
          have hbl := Below.alloc (Below.refl wr.heap.size wr) (Nat.le_refl _) (.cells #[] 3)
          have K0 := Lib.hid (K.out.below hbl (Nat.le_refl _))
          have I0 := Lib.hid (Oi.out.alloc (.cells #[] 3))
          have Q0 := Lib.hid (Oo.out.alloc (.cells #[] 3))
          have B0 := Lib.hid (HB.out.trans (hbl.mono HB.out.size))
          have Bl := Lib.hid hbl
          have zI := Lib.hid (Oi.out.lt); have zO := Lib.hid (Oo.out.lt)
          clear hbl K Oi Oo HB
          generalize hw : wr.alloc (.cells #[] 3) = x0 at *
          replace hw := Lib.hid hw
          refine (all_i K0.out 1).mono ?_
          rintro e x1 ⟨v1, rfl, V1, F1⟩
          have K1 := Lib.hid (K0.out.below F1 (Nat.le_refl _))
          have I1 := Lib.hid (I0.out.fr (Fr.of_below (S := fun _ _ => False) F1 (Nat.le_refl _)) (fun _ _ _ h => h))
          have Q1 := Lib.hid (Q0.out.fr (Fr.of_below (S := fun _ _ => False) F1 (Nat.le_refl _)) (fun _ _ _ h => h))
          have E1 := Lib.hid (E0.out.fr (Fr.of_below (S := fun _ _ => False) F1 (Nat.le_refl _)) (fun _ _ _ h => h))
          have B1 := Lib.hid (B0.out.trans (F1.mono B0.out.size))
          have Bl1 := Lib.hid (Bl.out.trans (F1.mono Bl.out.size))
          replace V1 := Lib.hid V1
          have l1 : (natsI (R 1)).length ≤ 100000000 := by rw [natsI_len]; have := K1.out.rowLen 1; have e : rowI R 1 = R 1 := rfl; rw [e] at this; omega
          have l0 : (natsI (R 0)).length ≤ 100000000 := by rw [natsI_len]; have := K1.out.rowLen 0; have e : rowI R 0 = R 0 := rfl; rw [e] at this; omega
          replace l1 := Lib.hid l1; replace l0 := Lib.hid l0
          clear K0 I0 Q0 E0 B0 F1 Bl
          have hle := Bl1.out.size
          go_wp2_with (first | (at_builtin; refine append_ints rfl rfl Try.underlying40 rfl E1.out rfl V1.out (by simp) l1.out hle ?_))
          intro ve x2 E2 P2 _ _
          replace E2 := Lib.hid (show OwnI x2 wr.heap.size ve (natsI (R 1)) from E2)
          have K2 := K1.out.low P2 (Nat.lt_of_lt_of_le hp.out hS.out) (Nat.lt_of_lt_of_le hL.out.2 hS.out) (Nat.lt_of_lt_of_le hM.out.2 hS.out)
          have I2 := Lib.hid (I1.out.block (fun k hk => P2.block k (zI.out k hk).2))
          have Q2 := Lib.hid (Q1.out.block (fun k hk => P2.block k (zO.out k hk).2))
          have B2 := Lib.hid (B1.out.trans (P2.mono (Nat.le_trans (Nat.le_trans hL.out.1 (Nat.le_of_lt hL.out.2)) hS.out)))
          have Bl2 := Lib.hid (Bl1.out.trans P2)
          clear K1 I1 Q1 E1 B1 P2 Bl1 V1 hle
          go_wp2_with fail
          refine (all_i K2 0).mono ?_
          rintro e x3 ⟨v0, rfl, V0, F3⟩
          have K3 := Lib.hid (K2.below F3 (Nat.le_refl _))
          have I3 := Lib.hid (I2.out.fr (Fr.of_below (S := fun _ _ => False) F3 (Nat.le_refl _)) (fun _ _ _ h => h))
          have Q3 := Lib.hid (Q2.out.fr (Fr.of_below (S := fun _ _ => False) F3 (Nat.le_refl _)) (fun _ _ _ h => h))
          have E3 := Lib.hid (E2.out.fr (Fr.of_below (S := fun _ _ => False) F3 (Nat.le_refl _)) (fun _ _ _ h => h))
          have B3 := Lib.hid (B2.out.trans (F3.mono B2.out.size))
          have Bl3 := Lib.hid (Bl2.out.trans (F3.mono Bl2.out.size))
          replace V0 := Lib.hid V0
          clear K2 I2 Q2 E2 B2 F3 Bl2
          have hle := Bl3.out.size
          go_wp2_with (first | (at_builtin; refine append_ints rfl rfl Try.underlying40 rfl E3.out rfl V0.out l1.out l0.out hle ?_))
          intro vf x4 E4 P4 _ _
          have hcat : natsI (R 1) ++ natsI (rowI R 0) = natsI ins := by rw [← hR1.out]; simp [natsI, rowI]
          rw [hcat] at E4
          have K4 := K3.out.low P4 (Nat.lt_of_lt_of_le hp.out hS.out) (Nat.lt_of_lt_of_le hL.out.2 hS.out) (Nat.lt_of_lt_of_le hM.out.2 hS.out)
          have I4 := (I3.out.block (fun k hk => P4.block k (zI.out k hk).2))
          have Q4 := Lib.hid (Q3.out.block (fun k hk => P4.block k (zO.out k hk).2))
          have B4 := Lib.hid (B3.out.trans (P4.mono (Nat.le_trans (Nat.le_trans hL.out.1 (Nat.le_of_lt hL.out.2)) hS.out)))
          have Bl4 := Lib.hid (Bl3.out.trans P4)
          clear K3 I3 Q3 E3 B3 P4 Bl3 V0 hle hcat
          obtain ⟨Ae, ce, rfl⟩ := E4.slice
          obtain ⟨Ai, ci, hvi⟩ := I4.slice
          have hnl : (natsI ins).length ≤ 1000000000000 := by rw [natsI_len]; have := bdi.out; omega
          rw [hvi] at I4
          have re := E4.row.1
          have ri := I4.row.1
          subst hvi
          replace hnl := Lib.hid hnl
          replace I4 := Lib.hid I4
          clear E4
          go_wp2_with fail
          refine (same_c re ri hnl.out hnl.out).mono ?_
          rintro e x5 ⟨rfl, F5⟩
          rw [decide_eq_true (rfl : natsI ins = natsI ins)]
          have K5 := (K4.below F5 (Nat.le_refl _))
          have I5 := Lib.hid (I4.out.fr (Fr.of_below (S := fun _ _ => False) F5 (Nat.le_refl _)) (fun _ _ _ h => h))
          have Q5 := Lib.hid (Q4.out.fr (Fr.of_below (S := fun _ _ => False) F5 (Nat.le_refl _)) (fun _ _ _ h => h))
          have B5 := Lib.hid (B4.out.trans (F5.mono B4.out.size))
          have Bl5 := Lib.hid (Bl4.out.trans (F5.mono Bl4.out.size))
          clear K4 I4 Q4 B4 F5 Bl4 re ri
          go_wp2_with fail
          refine (all_i K5 1).mono ?_
          rintro e x6 ⟨v6, rfl, V6, F6⟩
          have K6 := Lib.hid (K5.below F6 (Nat.le_refl _))
          have I6 := Lib.hid (I5.out.fr (Fr.of_below (S := fun _ _ => False) F6 (Nat.le_refl _)) (fun _ _ _ h => h))
          have Q6 := (Q5.out.fr (Fr.of_below (S := fun _ _ => False) F6 (Nat.le_refl _)) (fun _ _ _ h => h))
          have B6 := Lib.hid (B5.out.trans (F6.mono B5.out.size))
          have Bl6 := Lib.hid (Bl5.out.trans (F6.mono Bl5.out.size))
          clear K5 I5 Q5 B5 F6 Bl5
          obtain ⟨Ae, ce, rfl⟩ := V6.slice
          obtain ⟨Ai, ci, hvi⟩ := Q6.slice
          have hnl1 : (natsI (R 1)).length ≤ 1000000000000 := by have := l1.out; omega
          rw [hvi] at Q6
          have re := V6.row.1
          have ri := Q6.row.1
          subst hvi
          replace hnl1 := Lib.hid hnl1
          replace Q6 := Lib.hid Q6
          clear V6
          have er1 : rowI R 1 = R 1 := rfl
          rw [er1] at re
          go_wp2_with fail
          refine (same_c re ri hnl1.out hnl1.out).mono ?_
          rintro e x7 ⟨rfl, F7⟩
          rw [decide_eq_true (rfl : natsI (R 1) = natsI (R 1))]
          have K7 := Lib.hid (K6.out.below F7 (Nat.le_refl _))
          have I7 := Lib.hid (I6.out.fr (Fr.of_below (S := fun _ _ => False) F7 (Nat.le_refl _)) (fun _ _ _ h => h))
          have Q7 := Lib.hid (Q6.out.fr (Fr.of_below (S := fun _ _ => False) F7 (Nat.le_refl _)) (fun _ _ _ h => h))
          have B7 := Lib.hid (B6.out.trans (F7.mono B6.out.size))
          have S7 := Lib.hid (Nat.le_trans hS.out (Nat.le_trans Bl6.out.size F7.size))
          clear K6 I6 Q6 B6 F7 Bl6 re ri zI zO hw er1
          have hle1 : (natsI (R 1)).length ≤ 8192 := by have := K7.out.rowLen 1; have e : rowI R 1 = R 1 := rfl; rw [e] at this; rw [natsI_len]; exact this
          go_wp2_with fail
          go_loopw [98] (fun kk wr => ∃ (i : Nat), kk = .int .i64 i ∧ Hid (i ≤ (natsI (R 1)).length) ∧ Hid (ChI wr p L M 64 2 R) ∧ Hid (OwnI wr S (.slice Ai (natsI (R 1)).length ci) (natsI (R 1))) ∧ Hid (Below w.heap.size w wr)) (fun kk _ => (natsI (R 1)).length - (intOf kk).toNat)
          case atStart => exact ⟨0, rfl, Lib.hid (Nat.zero_le _), K7, Q7, B7⟩
          case round =>
            clear K7 Q7 B7 I7 S7
            obtain ⟨i, rfl, h1, K, Q, B⟩ := hrel
            by_cases hlt : i < (natsI (R 1)).length
            · obtain ⟨b, off, rfl, hc⟩ := RowAt.get Q.out.row.1 hlt
              obtain ⟨kn, hkn, hkm⟩ : ∃ kn : Nat, (natsI (R 1)).getD i 0 = kn ∧ kn ∈ R 1 := by
                have hl2 : i < (R 1).length := by rw [← natsI_len]; exact hlt
                exact ⟨(R 1)[i], by simp [natsI, hl2], List.getElem_mem hl2⟩
              rw [hkn] at hc
              have hk0 : kn ∉ R 0 := fun hm => absurd (K.out.uniq hkm hm) (by decide)
              have hk64 := (K.out.mem hkm).2
              have f1 : onB 2 R kn = true := by unfold onB; rw [Int.toNat_natCast, isOn2]; simp [hkm]
              have f2 : onV 2 R kn = 1 := by unfold onV; rw [if_pos f1, Int.toNat_natCast, onAt1 hk0 hkm]; rfl
              have f3 : canPush 64 2 R 0 kn = false := by unfold canPush; rw [Int.toNat_natCast, isOn2]; simp [hkm]
              replace hkm := Lib.hid hkm
              replace f1 := Lib.hid f1; replace f2 := Lib.hid f2; replace f3 := Lib.hid f3
              clear hk0 hkn
              go_wp2_with fail
              refine (on_i K.out kn).mono ?_
              rintro e x8 ⟨rfl, rfl⟩
              rw [f1.out, f2.out]
              go_wp2_with fail
              refine (push_i K.out 0 kn).mono ?_
              rintro e x9 ⟨rfl, X, F9⟩
              rw [f3.out]
              rw [push_off f3.out] at X
              replace X := Lib.hid X
              have Q9 := Lib.hid (Q.out.fr F9 (fun k o hk hs => by have := hL.out; have := hM.out; rcases hs with h | h <;> omega))
              have B9 := below_chain B F9 (Nat.le_refl _) hL.out.1 hM.out.1
              clear K Q B F9 hc
              go_wp2
              go_roundw
              case rel => exact ⟨i + 1, by go_num, Lib.hid (by omega), X, Q9, B9⟩
              case measure => simp [intOf]; omega
            · clear h1
              have hA : (rowI R 0).length ≤ 8192 := K.out.rowLen 0
              have hB : (rowI R 1).length ≤ 8192 := K.out.rowLen 1
              have hC : ((rowI R 0).length : Int) + ((rowI R 1).length : Int) = ((natsI ins).length : Int) := by
                rw [natsI_len, ← hR1.out, List.length_append]
                have e0 : rowI R 0 = R 0 := rfl
                have e1 : rowI R 1 = R 1 := rfl
                rw [e0, e1]
                omega
              go_wp2_with fail
              refine (len_i K.out 0).mono ?_
              rintro e x8 ⟨rfl, rfl⟩
              go_wp2_with fail
              refine (len_i K.out 1).mono ?_
              rintro e x8 ⟨rfl, rfl⟩
              go_wp2
              go_ret
              exact ⟨rfl, B.out⟩
end Go.Proofs.Ytdgcppglpmlgkaa
