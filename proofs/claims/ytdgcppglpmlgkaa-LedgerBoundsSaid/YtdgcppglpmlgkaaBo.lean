/- LedgerBounds. -/
import Derived.Test.YtdgcppglpmlgkaaAl6
import Derived.Test.YtdgcppglpmlgkaaMake
namespace Go.Proofs.Ytdgcppglpmlgkaa
open Go.RowKit
set_option linter.unusedVariables false
set_option linter.unusedSimpArgs false
set_option maxRecDepth 100000

theorem bset_len {κ : Type} [DecidableEq κ] (L : List (κ × Int × Int)) (k : κ) (p : Int × Int) : (bset L k p).length = if getL L k = none then L.length + 1 else L.length := by
  have h := congrArg List.length (keys_bset L k p)
  rw [List.length_map] at h
  rw [h]
  split <;> simp
/-- What is said of the book: to each of the first m numbers a bound, and how much there is; to no other one. -/
def BoI (ls ss : List Int) (m : Nat) (L : List (Int × Int × Int)) : Prop :=
  (∀ j : Nat, j < m → getL L (j : Int) = some (max (ls.getD j 0) 0, ss.getD j 0)) ∧ (∀ key : Int, key < 0 ∨ (m : Int) ≤ key → getL L key = none) ∧ L.length = m
theorem BoI.start (ls : List Int) : BoI ls [] 0 [] := ⟨fun j h => absurd h (by omega), fun _ _ => rfl, rfl⟩
theorem BoI.limit {ls : List Int} {k : Nat} {L : List (Int × Int × Int)} (h : BoI ls [] k L) : BoI ls [] (k + 1) (bLimit L (k : Int) (ls.getD k 0)) := by
  have hn := h.2.1 (k : Int) (.inr (Int.le_refl _))
  have hu : usedV L (k : Int) = 0 := by unfold usedV; rw [hn]
  unfold bLimit
  rw [hu]
  refine ⟨fun j hj => ?_, fun key hk => ?_, ?_⟩
  · rw [get_bset]
    by_cases e : (j : Int) = (k : Int)
    · rw [if_pos e]
      have : j = k := by omega
      subst this; rfl
    · rw [if_neg e]; exact h.1 j (by omega)
  · rw [get_bset, if_neg (by omega)]; exact h.2.1 key (by omega)
  · rw [bset_len, if_pos hn, h.2.2]
theorem BoI.set {ls ss : List Int} {m j : Nat} {L : List (Int × Int × Int)} (h : BoI ls ss m L) (hj : j < m) (hs : ss.length = m) (x : Int) : BoI ls (ss.set j x) m (bset L (j : Int) (max (ls.getD j 0) 0, x)) := by
  refine ⟨fun i hi => ?_, fun key hk => ?_, ?_⟩
  · rw [get_bset]
    by_cases e : (i : Int) = (j : Int)
    · rw [if_pos e]
      have : i = j := by omega
      subst this
      simp [hs, hj]
    · rw [if_neg e, h.1 i hi]
      have : j ≠ i := by omega
      simp [List.getElem?_set, this]
  · rw [get_bset, if_neg (by omega)]; exact h.2.1 key hk
  · rw [bset_len, if_neg (by rw [h.1 j hj]; simp), h.2.2]
theorem BoI.used {ls ss : List Int} {m j : Nat} {L : List (Int × Int × Int)} (h : BoI ls ss m L) (hj : j < m) : usedV L (j : Int) = ss.getD j 0 := by unfold usedV; rw [h.1 j hj]
theorem BoI.left {ls ss : List Int} {m j : Nat} {L : List (Int × Int × Int)} (h : BoI ls ss m L) (hj : j < m) : leftV L (j : Int) = max (max (ls.getD j 0) 0 - ss.getD j 0) 0 := by unfold leftV; rw [h.1 j hj]
theorem BoI.lim {ls ss : List Int} {m j : Nat} {L : List (Int × Int × Int)} (h : BoI ls ss m L) (hj : j < m) : limV L (j : Int) = max (ls.getD j 0) 0 := by unfold limV; rw [h.1 j hj]
theorem BoI.takeB {ls ss : List Int} {m j : Nat} {L : List (Int × Int × Int)} (h : BoI ls ss m L) (hj : j < m) (n : Int) : takeB L (j : Int) n = (decide (0 ≤ n) && decide (n ≤ max (ls.getD j 0) 0 - ss.getD j 0)) := by unfold Proofs.Ytdgcppglpmlgkaa.takeB; rw [h.1 j hj]
theorem BoI.giveB {ls ss : List Int} {m j : Nat} {L : List (Int × Int × Int)} (h : BoI ls ss m L) (hj : j < m) (n : Int) : giveB L (j : Int) n = (decide (0 ≤ n) && decide (n ≤ ss.getD j 0)) := by unfold Proofs.Ytdgcppglpmlgkaa.giveB; rw [h.1 j hj]
theorem BoI.none {ls ss : List Int} {m : Nat} {L : List (Int × Int × Int)} (h : BoI ls ss m L) {key : Int} (hk : key < 0 ∨ (m : Int) ≤ key) (n : Int) : Proofs.Ytdgcppglpmlgkaa.takeB L key n = false ∧ Proofs.Ytdgcppglpmlgkaa.giveB L key n = false ∧ leftV L key = 0 := by
  have := h.2.1 key hk
  refine ⟨?_, ?_, ?_⟩
  · unfold Proofs.Ytdgcppglpmlgkaa.takeB; rw [this]
  · unfold Proofs.Ytdgcppglpmlgkaa.giveB; rw [this]
  · unfold leftV; rw [this]
theorem wf_bd {a : Int} (h : (Lit.int .i64 a).wf = true) : -9223372036854775808 ≤ a ∧ a < 9223372036854775808 := by
  simp [Lit.wf, IntKind.min, IntKind.max, IntKind.bits, IntKind.signed] at h
  omega
theorem row_getD {w : World} {A : Option Addr} {xs : List Int} (h : RowAt (fun x : Int => [.int .i64 x]) 1 w A xs) {i : Nat} (hi : i < xs.length) : ∃ b off, A = some ⟨b, off, none⟩ ∧ b < w.heap.size ∧ w.cell? ⟨b, off + i, none⟩ = some (.int .i64 (xs.getD i 0)) := by
  obtain ⟨b, off, e, hl, hc⟩ := h i hi
  refine ⟨b, off, e, hl, ?_⟩
  have := hc 0 (.int .i64 xs[i]) rfl
  simpa [hi] using this

set_option maxHeartbeats 8000000 in
theorem bounds_walk (A : Option Addr) (c : Nat) (ls : List Int) (A1 : Option Addr) (c1 : Nat) (ks : List Int) (A2 : Option Addr) (c2 : Nat) (ns : List Int) (w : World)
    (hr : RowAt (fun x : Int => [.int .i64 x]) 1 w A ls) (hr1 : RowAt (fun x : Int => [.int .i64 x]) 1 w A1 ks) (hr2 : RowAt (fun x : Int => [.int .i64 x]) 1 w A2 ns)
    (hg : ∀ x ∈ ls, (Lit.int .i64 x).wf = true) (hg2 : ∀ x ∈ ns, (Lit.int .i64 x).wf = true) (hz : ls.length * 8 ≤ 140737488351232) (hz1 : ks.length * 8 ≤ 140737488351232) (hz2 : ns.length * 8 ≤ 140737488351232) :
    Calls Try.prog 4 #[.slice A ls.length c, .slice A1 ks.length c1, .slice A2 ns.length c2] w fun r w' => r = .returned (.bool true) ∧ Below w.heap.size w w' := by
  by_cases hbig : 9 < ls.length ∨ 40 < ks.length ∨ ns.length < ks.length
  · have hbig := Lib.hid hbig
    clear hr hr1 hr2
    go_enter Try.func4, Try.ntmps4
    go_wp2_with fail
    refine (alive06_c w).mono ?_
    rintro e w1 ⟨rfl, hB1⟩
    replace hB1 := Lib.hid hB1
    by_cases h1 : 9 < ls.length
    · have e1 : decide ((9 : Int) < (ls.length : Int)) = true := by simp; omega
      go_wp2
      go_ret
      exact ⟨rfl, hB1.out⟩
    · have e1 : decide ((9 : Int) < (ls.length : Int)) = false := by simp; omega
      by_cases h2 : 40 < ks.length
      · have e2 : decide ((40 : Int) < (ks.length : Int)) = true := by simp; omega
        go_wp2
        go_ret
        exact ⟨rfl, hB1.out⟩
      · have e2 : decide ((40 : Int) < (ks.length : Int)) = false := by simp; omega
        have e3 : decide (ns.length < ks.length) = true := by have := hbig.out; simp; omega
        have e3' : ns.length < ks.length := by have := hbig.out; omega
        go_wp2
        go_ret
        exact ⟨rfl, hB1.out⟩
  · have e1 : decide ((9 : Int) < (ls.length : Int)) = false := by simp; omega
    have e2 : decide ((40 : Int) < (ks.length : Int)) = false := by simp; omega
    have e3 : decide (ns.length < ks.length) = false := by simp; omega
    have e3' : ¬ ns.length < ks.length := by omega
    have b1 : Hid (ls.length ≤ 9) := Lib.hid (by omega)
    have b2 : Hid (ks.length ≤ 40) := Lib.hid (by omega)
    have b3 : Hid (ks.length ≤ ns.length) := Lib.hid (by omega)
    have HR := Lib.hid hr; have HR1 := Lib.hid hr1; have HR2 := Lib.hid hr2
    have G := Lib.hid hg; have G2 := Lib.hid hg2
    clear hbig hr hr1 hr2 hz hz1 hz2 hg hg2
    go_enter Try.func4, Try.ntmps4
    go_wp2_with fail
    refine (alive06_c w).mono ?_
    rintro e w1 ⟨rfl, B1⟩
    have C1 := Cel.new w1 #[.slice none 0 0] 43 0 _ rfl
    have HB := Lib.hid (Below.alloc B1 B1.size (.cells #[.slice none 0 0] 43))
    have hs := Lib.hid B1.size
    have K := Lib.hid (Bk_i.new _ _ C1)
    have hgt := Lib.hid (show w1.heap.size < (w1.alloc (.cells #[.slice none 0 0] 43)).heap.size by simp)
    clear C1 B1
    go_wp2_with fail
    generalize w1.alloc (.cells #[.slice none 0 0] 43) = W at *
    generalize w1.heap.size = p at *
    go_loopw [35] (fun ii wr => ∃ (k : Nat) (v : Value) (L : List (Int × Int × Int)), ii = .int .i64 k ∧ Hid (Bk_i wr p v L) ∧ Hid (BoI ls [] k L) ∧ Hid (∀ b, v.ownBlock = some b → W.heap.size ≤ b) ∧ Hid (k ≤ ls.length) ∧ Hid (Below w.heap.size w wr) ∧ Hid (W.heap.size ≤ wr.heap.size)) (fun ii _ => ls.length - (intOf ii).toNat)
    case atStart => exact ⟨0, _, _, rfl, K, Lib.hid (BoI.start ls), Lib.hid (fun b hb => by cases hb), Lib.hid (Nat.zero_le _), HB, Lib.hid (Nat.le_refl _)⟩
    case round =>
      clear K HB
      obtain ⟨k, v, L, rfl, K, hI, hv, hk, HB, hWs⟩ := hrel
      by_cases hlt : k < ls.length
      · have hk10 : k < 10 := by have := b1.out; omega
        obtain ⟨b, off, rfl, hbl, hc⟩ := row_getD HR.out hlt
        have hz := (HB.out.cell (p := ⟨b, off + k, none⟩) hbl).trans hc
        have hwf := G.out (ls.getD k 0) (by simp [hlt])
        have hLl : L.length ≤ 100000 := by have := hI.out.2.2; omega
        have hI2 := Lib.hid (hI.out.limit)
        generalize ls.getD k 0 = x at *
        replace hLl := Lib.hid hLl
        have hwf2 : x < 9223372036854775808 := by
          simp [Lit.wf, IntKind.min, IntKind.max, IntKind.bits, IntKind.signed] at hwf
          omega
        replace hwf2 := Lib.hid hwf2
        have HBs := Lib.hid (show W.heap.size ≤ wr.heap.size from hWs.out)
        clear hbl hc hwf
        go_wp2_with fail
        refine (limit_i K.out hLl.out (k : Int) x hwf2.out).mono ?_
        rintro r w2 ⟨rfl, v2, B2, O2, F2⟩
        have hv2 : Hid (∀ b, v2.ownBlock = some b → W.heap.size ≤ b) := Lib.hid fun b hb => by
          rcases O2 with e | ⟨b', e, hl⟩
          · exact hv.out b (by rw [← e]; exact hb)
          · rw [e] at hb; injection hb with hb; have := HBs.out; omega
        have HB2 := Lib.hid (HB.out.trans (F2.below HB.out.size (fun b hb hh => hh.elim (fun e => by have := hs.out; omega) (fun e => by have := hv.out b e; have := hgt.out; have := hs.out; omega))))
        replace B2 := Lib.hid B2
        have hWs2 := Lib.hid (Nat.le_trans hWs.out F2.size)
        clear O2 F2 HB K hv hI
        go_wp2
        exact ⟨⟨k + 1, v2, _, by go_num, B2, hI2, hv2, Lib.hid (by omega), HB2, hWs2⟩, by simp [intOf]; omega⟩
      · obtain rfl : k = ls.length := by have := hk.out; omega
        obtain ⟨m, hm⟩ : ∃ m, m = ls.length := ⟨_, rfl⟩
        obtain ⟨Z, s1, z1, k1⟩ := make_eq (t := 40) Try.underlying40 info3 rfl rfl .i64 .i64 ls.length (by have := b1.out; omega) (by have := b1.out; omega)
        have hZ : Z = (kE_i.row (List.replicate ls.length (0 : Int))).toArray := by
          apply Array.ext_getElem?
          intro i
          rw [show ((kE_i.row (List.replicate ls.length (0 : Int))).toArray)[i]? = (kE_i.row (List.replicate ls.length (0 : Int)))[i]? from by simp]
          by_cases hi : i < ls.length
          · have h1 := z1 i 0 hi (by decide)
            rw [Nat.mul_one, Nat.add_zero] at h1
            rw [h1]
            have h2 := Enc.row_at (E := kE_i) (List.replicate ls.length (0 : Int)) i 0 (by simpa using hi) (by decide)
            rw [show i * kE_i.sz + 0 = i by show i * 1 + 0 = i; omega] at h2
            rw [h2]
            simp [kE_i]
            rfl
          · rw [Array.getElem?_eq_none (by rw [s1]; omega), List.getElem?_eq_none (by rw [Enc.row_length]; simp; show ls.length * 1 ≤ i; omega)]
        have O := OwnE.lit (E := kE_i) wr w.heap.size HB.out.size (List.replicate ls.length (0 : Int)) Z hZ (by simp; have := b1.out; simp only [maxLen]; omega)
        rw [List.length_replicate] at O
        replace O : OwnE kE_i (wr.alloc (.cells Z 3)) w.heap.size (.slice (some ⟨wr.heap.size, 0, none⟩) ls.length ls.length) (List.replicate ls.length (0 : Int)) := O
        have hB3 := Lib.hid (Below.alloc HB.out HB.out.size (.cells Z 3))
        have K3 := Lib.hid (K.out.below (Below.alloc (Below.refl wr.heap.size wr) (Nat.le_refl _) (.cells Z 3)))
        have hgx := Lib.hid (show ¬ bkS_i p v wr.heap.size from fun hh => hh.elim (fun e => by have := K.out.cel.lt; omega) (fun e => by have := (K.out.own.lt _ e).2; omega))
        have low := Lib.hid (show ∀ b, b < w.heap.size → ¬ bkS_i p v b from fun b hb hh => hh.elim (fun e => by have := hs.out; omega) (fun e => by have := hv.out b e; have := hgt.out; have := hs.out; omega))
        have hI3 : BoI ls (List.replicate ls.length 0) ls.length L := ⟨fun j hj => by rw [hI.out.1 j hj]; simp [hj], hI.out.2.1, hI.out.2.2⟩
        have hgw := Lib.hid (show w.heap.size ≤ wr.heap.size from HB.out.size)
        replace O := Lib.hid O; replace hI3 := Lib.hid hI3
        clear hI hv HB K hZ z1 s1 hm
        go_wp2_with fail
        generalize wr.alloc (.cells Z 3) = W3 at *
        generalize wr.heap.size = g0 at *
        clear k1
        go_loopw [49] (fun ii wr2 => ∃ (k : Nat) (L : List (Int × Int × Int)) (ss : List Int), ii = .int .i64 k ∧ Hid (Bk_i wr2 p v L) ∧ Hid (BoI ls ss ls.length L) ∧ Hid (ss.length = ls.length) ∧ Hid (∀ i, i < ls.length → 0 ≤ ss.getD i 0 ∧ ss.getD i 0 ≤ max (ls.getD i 0) 0) ∧ Hid (OwnE kE_i wr2 w.heap.size (.slice (some ⟨g0, 0, none⟩) ls.length ls.length) ss) ∧ Hid (k ≤ ks.length) ∧ Hid (Below w.heap.size w wr2)) (fun ii _ => ks.length - (intOf ii).toNat)
        case atStart => exact ⟨0, L, List.replicate ls.length 0, rfl, K3, hI3, Lib.hid (by simp), Lib.hid (fun i hi => by simp [hi]; omega), O, Lib.hid (Nat.zero_le _), hB3⟩
        case round =>
          clear K3 O hB3 hI3
          obtain ⟨k, L, ss, rfl, K4, hI, hsl, hb, O4, hk, HB4⟩ := hrel
          by_cases hlt : k < ks.length
          · have hk41 : k < 41 := by have := b2.out; omega
            have hkn : k < ns.length := by have := b3.out; omega
            obtain ⟨b, off, e7, hbl, hc⟩ := row_getD HR1.out hlt
            subst e7
            have hz1 := (HB4.out.cell (p := ⟨b, off + k, none⟩) hbl).trans hc
            obtain ⟨b', off', e7', hbl', hc'⟩ := row_getD HR2.out hkn
            subst e7'
            have hz2 := (HB4.out.cell (p := ⟨b', off' + k, none⟩) hbl').trans hc'
            have hwn := wf_bd (G2.out (ns.getD k 0) (by simp [List.getD_eq_getElem?_getD, List.getElem?_eq_getElem hkn]))
            have hkn' : (k : Int) < (ns.length : Int) := by omega
            have hLl : Hid (L.length ≤ 100000) := Lib.hid (by have := hI.out.2.2; have := b1.out; omega)
            generalize ks.getD k 0 = key at *
            generalize ns.getD k 0 = n at *
            clear hbl hc hbl' hc'
            by_cases hr : key < 0 ∨ (ls.length : Int) ≤ key
            · obtain ⟨n1, n2, n3⟩ := hI.out.none hr 0
              have d1 : (decide (key < 0) || decide ((ls.length : Int) ≤ key)) = true := by simp; omega
              replace n1 := Lib.hid n1; replace n2 := Lib.hid n2; replace n3 := Lib.hid n3
              by_cases hk0 : key < 0
              · have d2 : decide (key < 0) = true := decide_eq_true hk0
                go_wp2_with fail
                refine (take_i K4.out hLl.out key 0).mono ?_
                rintro r w5 ⟨rfl, B, F⟩
                rw [n1.out]
                rw [show bTake L key 0 = L by unfold bTake; rw [n1.out]; rfl] at B
                have O5 := Lib.hid (O4.out.frb F (fun b hb hh => hgx.out (by cases hb; exact hh)))
                have HB5 := Lib.hid (HB4.out.trans (F.below HB4.out.size low.out))
                have K5 := Lib.hid B
                clear B F
                go_wp2_with fail
                refine (give_i K5.out hLl.out key 0).mono ?_
                rintro r w6 ⟨rfl, B, F⟩
                rw [n2.out]
                rw [show bGive L key 0 = L by unfold bGive; rw [n2.out]; rfl] at B
                have O6 := Lib.hid (O5.out.frb F (fun b hb hh => hgx.out (by cases hb; exact hh)))
                have HB6 := Lib.hid (HB5.out.trans (F.below HB5.out.size low.out))
                have K6 := Lib.hid B
                clear B F O5 HB5 K5
                go_wp2_with fail
                refine (left_i K6.out hLl.out key).mono ?_
                rintro r w7 ⟨rfl, F⟩
                rw [n3.out]
                have O7 := Lib.hid (O6.out.below F)
                have HB7 := Lib.hid (HB6.out.trans (F.mono HB6.out.size))
                have K7 := Lib.hid (K6.out.below F)
                clear F O6 HB6 K6
                go_wp2
                exact ⟨⟨k + 1, L, ss, by go_num, K7, hI, hsl, hb, O7, Lib.hid (by omega), HB7⟩, by simp [intOf]; omega⟩
              · have d2 : decide (key < 0) = false := decide_eq_false hk0
                have d3 : decide ((ls.length : Int) ≤ key) = true := by simp; omega
                go_wp2_with fail
                refine (take_i K4.out hLl.out key 0).mono ?_
                rintro r w5 ⟨rfl, B, F⟩
                rw [n1.out]
                rw [show bTake L key 0 = L by unfold bTake; rw [n1.out]; rfl] at B
                have O5 := Lib.hid (O4.out.frb F (fun b hb hh => hgx.out (by cases hb; exact hh)))
                have HB5 := Lib.hid (HB4.out.trans (F.below HB4.out.size low.out))
                have K5 := Lib.hid B
                clear B F
                go_wp2_with fail
                refine (give_i K5.out hLl.out key 0).mono ?_
                rintro r w6 ⟨rfl, B, F⟩
                rw [n2.out]
                rw [show bGive L key 0 = L by unfold bGive; rw [n2.out]; rfl] at B
                have O6 := Lib.hid (O5.out.frb F (fun b hb hh => hgx.out (by cases hb; exact hh)))
                have HB6 := Lib.hid (HB5.out.trans (F.below HB5.out.size low.out))
                have K6 := Lib.hid B
                clear B F O5 HB5 K5
                go_wp2_with fail
                refine (left_i K6.out hLl.out key).mono ?_
                rintro r w7 ⟨rfl, F⟩
                rw [n3.out]
                have O7 := Lib.hid (O6.out.below F)
                have HB7 := Lib.hid (HB6.out.trans (F.mono HB6.out.size))
                have K7 := Lib.hid (K6.out.below F)
                clear F O6 HB6 K6
                go_wp2
                exact ⟨⟨k + 1, L, ss, by go_num, K7, hI, hsl, hb, O7, Lib.hid (by omega), HB7⟩, by simp [intOf]; omega⟩
            · have d2 : decide (key < 0) = false := by simp; omega
              have d3 : decide ((ls.length : Int) ≤ key) = false := by simp; omega
              obtain ⟨j, rfl⟩ := Int.eq_ofNat_of_zero_le (show 0 ≤ key by omega)
              have hj : j < ls.length := by omega
              have hji : (j : Int) < (ls.length : Int) := by omega
              have ht := hI.out.takeB hj n
              have hgv := hI.out.giveB hj (-n)
              have hlm := hI.out.lim hj
              have hus := hI.out.used hj
              obtain ⟨hs0, hs1⟩ := hb.out j hj
              have hlw := wf_bd (G.out (ls.getD j 0) (by simp [List.getD_eq_getElem?_getD, List.getElem?_eq_getElem hj]))
              obtain ⟨s, hsd⟩ : ∃ s, s = ss.getD j 0 := ⟨_, rfl⟩
              obtain ⟨lm, hld⟩ : ∃ lm, lm = max (ls.getD j 0) 0 := ⟨_, rfl⟩
              rw [← hsd] at ht hgv hus hs0 hs1
              rw [← hld] at ht hlm hs1
              have hlmb : lm < 9223372036854775808 := by omega
              replace hsd := Lib.hid hsd; replace hld := Lib.hid hld
              clear hr
              by_cases hn0 : 0 ≤ n
              · by_cases hyes : n ≤ lm - s
                · have t4 : takeB L (j : Int) n = true := by rw [ht]; simp; omega
                  have hLn : bTake L (j : Int) n = bset L (j : Int) (max (ls.getD j 0) 0, s + n) := by unfold bTake; rw [t4, hlm, hus, hld.out]; rfl
                  replace t4 := Lib.hid t4; replace hLn := Lib.hid hLn
                  clear ht hgv hlm hus
                  go_wp2_with fail
                  refine (take_i K4.out hLl.out (j : Int) n).mono ?_
                  rintro r w5 ⟨rfl, B, F⟩
                  rw [t4.out]
                  rw [hLn.out] at B
                  have O5a := O4.out.frb F (fun b hb hh => hgx.out (by cases hb; exact hh))
                  have HB5a := HB4.out.trans (F.below HB4.out.size low.out)
                  have hjS : j < ss.length := by rw [hsl.out]; exact hj
                  have hst : OwnE kE_i (w5.setCell ⟨g0, j, none⟩ (.int .i64 (s + n))) w.heap.size (.slice (some ⟨g0, 0, none⟩) ls.length ls.length) (ss.set j (s + n)) := by
                    have h9 := OwnE.set (E := kE_i) (i := j) (j := 0) (u := .int .i64 (s + n)) (y := s + n) O5a hjS (by decide) rfl
                    rw [show j * kE_i.sz + 0 = j by show j * 1 + 0 = j; omega] at h9
                    exact h9
                  obtain ⟨hyc, hyf⟩ := OwnE.cel (E := kE_i) (j := 0) (u := .int .i64 (ss.getD j 0)) O5a hjS (by simp [kE_i, List.getD_eq_getElem?_getD, List.getElem?_eq_getElem hjS])
                  rw [show j * kE_i.sz + 0 = j by show j * 1 + 0 = j; omega] at hyc hyf
                  rw [← hsd.out] at hyc
                  have hw5 : wrap64 (s + n) = s + n := by unfold wrap64; omega
                  have hsl5 : Hid ((ss.set j (s + n)).length = ls.length) := Lib.hid (by rw [List.length_set]; exact hsl.out)
                  have hI5 := Lib.hid (hI.out.set hj hsl.out (s + n))
                  have hb5 : Hid (∀ i, i < ls.length → 0 ≤ (ss.set j (s + n)).getD i 0 ∧ (ss.set j (s + n)).getD i 0 ≤ max (ls.getD i 0) 0) := Lib.hid fun i hi => by
                    by_cases hij : i = j
                    · subst hij
                      rw [show (ss.set i (s + n)).getD i 0 = s + n by simp [hjS]]
                      rw [← hld.out]
                      omega
                    · rw [show (ss.set j (s + n)).getD i 0 = ss.getD i 0 by have : j ≠ i := fun e => hij e.symm; simp [List.getElem?_set, this]]
                      exact hb.out i hi
                  have hne : g0 ≠ p := fun e => hgx.out (.inl e)
                  have K5 : Hid (Bk_i (w5.setCell ⟨g0, j, none⟩ (.int .i64 (s + n))) p v (bset L (j : Int) (max (ls.getD j 0) 0, s + n))) := Lib.hid (B.fr (FrB.set w5 ⟨g0, j, none⟩ (.int .i64 (s + n))) (fun e => hne e.symm) (fun b hb e => hgx.out (.inr (by have e' : b = g0 := e; subst e'; exact hb))))
                  have O5 := Lib.hid hst
                  have HB5 : Hid (Below w.heap.size w (w5.setCell ⟨g0, j, none⟩ (.int .i64 (s + n)))) := Lib.hid (HB5a.trans ⟨rfl, rfl, rfl, by simp, fun b hb => Below.heap_setCell _ _ _ _ (by have := hgw.out; simp only; omega)⟩)
                  clear B F K4 O4 HB4 hst O5a HB5a hjS
                  go_wp2_with fail
                  go_loopw [106] (fun ii wr3 => ∃ (i : Nat), ii = .int .i64 i ∧ Hid (Bk_i wr3 p v (bset L (j : Int) (max (ls.getD j 0) 0, s + n))) ∧ Hid (OwnE kE_i wr3 w.heap.size (.slice (some ⟨g0, 0, none⟩) ls.length ls.length) (ss.set j (s + n))) ∧ Hid (i ≤ ls.length) ∧ Hid (Below w.heap.size w wr3)) (fun ii _ => ls.length - (intOf ii).toNat)
                  case atStart => exact ⟨0, rfl, K5, O5, Lib.hid (Nat.zero_le _), HB5⟩
                  case round =>
                    clear K5 O5 HB5
                    obtain ⟨i, rfl, K6, O6, hi, HB6⟩ := hrel
                    by_cases hil : i < ls.length
                    · have hi10 : i < 10 := by have := b1.out; omega
                      obtain ⟨b, off, e7, hbl, hc⟩ := row_getD HR.out hil
                      subst e7
                      have hz := (HB6.out.cell (p := ⟨b, off + i, none⟩) hbl).trans hc
                      have hSl : i < ((ss.set j (s + n))).length := by rw [hsl5.out]; exact hil
                      obtain ⟨hy, -⟩ := OwnE.cel (E := kE_i) (j := 0) (u := .int .i64 (((ss.set j (s + n))).getD i 0)) O6.out hSl (by simp [kE_i, List.getD_eq_getElem?_getD, List.getElem?_eq_getElem hSl])
                      rw [show i * kE_i.sz + 0 = i by show i * 1 + 0 = i; omega] at hy
                      have hu := hI5.out.used hil
                      have hlf := hI5.out.left hil
                      obtain ⟨hb5a, hb5b⟩ := hb5.out i hil
                      have hLl : ((bset L (j : Int) (max (ls.getD j 0) 0, s + n))).length ≤ 100000 := by rw [hI5.out.2.2]; have := b1.out; omega
                      replace hLl := Lib.hid hLl
                      have hgx1 := wf_bd (G.out (ls.getD i 0) (by simp [List.getD_eq_getElem?_getD, List.getElem?_eq_getElem hil]))
                      generalize ((ss.set j (s + n))).getD i 0 = sv at *
                      generalize ls.getD i 0 = lv at *
                      clear hbl hc hSl
                      by_cases hlv : 0 ≤ lv
                      · rw [show max lv 0 = lv by omega] at hlf hb5b
                        rw [show max (lv - sv) 0 = lv - sv by omega] at hlf
                        have hw : wrap64 (lv - sv) = lv - sv := by unfold wrap64; omega
                        have d1 : decide (sv < 0) = false := by simp; omega
                        have d2 : decide (lv < sv) = false := by simp; omega
                        go_wp2_with fail
                        go_quiet (first
                          | (go_at_call 29; refine Calls.quiet_of_same ((used_i (K6.out.drewN _) hLl.out (i : Int)).mono fun _ _ h => (⟨h.1.trans (by rw [hu]), h.2.symm⟩ : _ = Ending.returned (.int .i64 sv) ∧ _)))
                          | (go_at_call 28; refine Calls.quiet_of ((leftq_i (K6.out.drewN _) hLl.out (i : Int)).mono fun _ _ h => (⟨h.1.trans (by rw [hlf]), h.2⟩ : _ = Ending.returned (.int .i64 (lv - sv)) ∧ _))))
                        go_wp2
                        all_goals try (exfalso; omega)
                        all_goals exact ⟨⟨i + 1, by go_num, Lib.hid (K6.out.drewN _), Lib.hid (O6.out.drewN _), Lib.hid (by omega), Lib.hid (belowDrew HB6.out _)⟩, by simp [intOf]; omega⟩
                      · rw [show max lv 0 = 0 by omega] at hlf hb5b
                        obtain rfl : sv = 0 := by omega
                        rw [show max ((0 : Int) - 0) 0 = 0 by omega] at hlf
                        go_wp2_with fail
                        go_quiet (first
                          | (go_at_call 29; refine Calls.quiet_of_same ((used_i (K6.out.drewN _) hLl.out (i : Int)).mono fun _ _ h => (⟨h.1.trans (by rw [hu]), h.2.symm⟩ : _ = Ending.returned (.int .i64 0) ∧ _)))
                          | (go_at_call 28; refine Calls.quiet_of ((leftq_i (K6.out.drewN _) hLl.out (i : Int)).mono fun _ _ h => (⟨h.1.trans (by rw [hlf]), h.2⟩ : _ = Ending.returned (.int .i64 0) ∧ _))))
                        go_wp2
                        all_goals try (exfalso; omega)
                        all_goals exact ⟨⟨i + 1, by go_num, Lib.hid (K6.out.drewN _), Lib.hid (O6.out.drewN _), Lib.hid (by omega), Lib.hid (belowDrew HB6.out _)⟩, by simp [intOf]; omega⟩
                    · obtain rfl : i = ls.length := by have := hi.out; omega
                      go_wp2
                      exact ⟨⟨k + 1, _, _, by go_num, K6, hI5, hsl5, hb5, O6, Lib.hid (by omega), HB6⟩, by simp [intOf]; omega⟩
                · have t4 : takeB L (j : Int) n = false := by rw [ht]; simp; omega
                  have hLn : bTake L (j : Int) n = L := by unfold bTake; rw [t4]; rfl
                  replace t4 := Lib.hid t4; replace hLn := Lib.hid hLn
                  clear ht hgv hlm hus
                  go_wp2_with fail
                  refine (take_i K4.out hLl.out (j : Int) n).mono ?_
                  rintro r w5 ⟨rfl, B, F⟩
                  rw [t4.out]
                  rw [hLn.out] at B
                  have K5 := Lib.hid B
                  have O5 := Lib.hid (O4.out.frb F (fun b hb hh => hgx.out (by cases hb; exact hh)))
                  have HB5 := Lib.hid (HB4.out.trans (F.below HB4.out.size low.out))
                  have hI5 := hI
                  have hsl5 := hsl
                  have hb5 := hb
                  clear B F K4 O4 HB4
                  go_wp2_with fail
                  go_loopw [106] (fun ii wr3 => ∃ (i : Nat), ii = .int .i64 i ∧ Hid (Bk_i wr3 p v L) ∧ Hid (OwnE kE_i wr3 w.heap.size (.slice (some ⟨g0, 0, none⟩) ls.length ls.length) ss) ∧ Hid (i ≤ ls.length) ∧ Hid (Below w.heap.size w wr3)) (fun ii _ => ls.length - (intOf ii).toNat)
                  case atStart => exact ⟨0, rfl, K5, O5, Lib.hid (Nat.zero_le _), HB5⟩
                  case round =>
                    clear K5 O5 HB5
                    obtain ⟨i, rfl, K6, O6, hi, HB6⟩ := hrel
                    by_cases hil : i < ls.length
                    · have hi10 : i < 10 := by have := b1.out; omega
                      obtain ⟨b, off, e7, hbl, hc⟩ := row_getD HR.out hil
                      subst e7
                      have hz := (HB6.out.cell (p := ⟨b, off + i, none⟩) hbl).trans hc
                      have hSl : i < (ss).length := by rw [hsl5.out]; exact hil
                      obtain ⟨hy, -⟩ := OwnE.cel (E := kE_i) (j := 0) (u := .int .i64 ((ss).getD i 0)) O6.out hSl (by simp [kE_i, List.getD_eq_getElem?_getD, List.getElem?_eq_getElem hSl])
                      rw [show i * kE_i.sz + 0 = i by show i * 1 + 0 = i; omega] at hy
                      have hu := hI5.out.used hil
                      have hlf := hI5.out.left hil
                      obtain ⟨hb5a, hb5b⟩ := hb5.out i hil
                      have hLl : (L).length ≤ 100000 := by rw [hI5.out.2.2]; have := b1.out; omega
                      replace hLl := Lib.hid hLl
                      have hgx1 := wf_bd (G.out (ls.getD i 0) (by simp [List.getD_eq_getElem?_getD, List.getElem?_eq_getElem hil]))
                      generalize (ss).getD i 0 = sv at *
                      generalize ls.getD i 0 = lv at *
                      clear hbl hc hSl
                      by_cases hlv : 0 ≤ lv
                      · rw [show max lv 0 = lv by omega] at hlf hb5b
                        rw [show max (lv - sv) 0 = lv - sv by omega] at hlf
                        have hw : wrap64 (lv - sv) = lv - sv := by unfold wrap64; omega
                        have d1 : decide (sv < 0) = false := by simp; omega
                        have d2 : decide (lv < sv) = false := by simp; omega
                        go_wp2_with fail
                        go_quiet (first
                          | (go_at_call 29; refine Calls.quiet_of_same ((used_i (K6.out.drewN _) hLl.out (i : Int)).mono fun _ _ h => (⟨h.1.trans (by rw [hu]), h.2.symm⟩ : _ = Ending.returned (.int .i64 sv) ∧ _)))
                          | (go_at_call 28; refine Calls.quiet_of ((leftq_i (K6.out.drewN _) hLl.out (i : Int)).mono fun _ _ h => (⟨h.1.trans (by rw [hlf]), h.2⟩ : _ = Ending.returned (.int .i64 (lv - sv)) ∧ _))))
                        go_wp2
                        all_goals try (exfalso; omega)
                        all_goals exact ⟨⟨i + 1, by go_num, Lib.hid (K6.out.drewN _), Lib.hid (O6.out.drewN _), Lib.hid (by omega), Lib.hid (belowDrew HB6.out _)⟩, by simp [intOf]; omega⟩
                      · rw [show max lv 0 = 0 by omega] at hlf hb5b
                        obtain rfl : sv = 0 := by omega
                        rw [show max ((0 : Int) - 0) 0 = 0 by omega] at hlf
                        go_wp2_with fail
                        go_quiet (first
                          | (go_at_call 29; refine Calls.quiet_of_same ((used_i (K6.out.drewN _) hLl.out (i : Int)).mono fun _ _ h => (⟨h.1.trans (by rw [hu]), h.2.symm⟩ : _ = Ending.returned (.int .i64 0) ∧ _)))
                          | (go_at_call 28; refine Calls.quiet_of ((leftq_i (K6.out.drewN _) hLl.out (i : Int)).mono fun _ _ h => (⟨h.1.trans (by rw [hlf]), h.2⟩ : _ = Ending.returned (.int .i64 0) ∧ _))))
                        go_wp2
                        all_goals try (exfalso; omega)
                        all_goals exact ⟨⟨i + 1, by go_num, Lib.hid (K6.out.drewN _), Lib.hid (O6.out.drewN _), Lib.hid (by omega), Lib.hid (belowDrew HB6.out _)⟩, by simp [intOf]; omega⟩
                    · obtain rfl : i = ls.length := by have := hi.out; omega
                      go_wp2
                      exact ⟨⟨k + 1, _, _, by go_num, K6, hI5, hsl5, hb5, O6, Lib.hid (by omega), HB6⟩, by simp [intOf]; omega⟩
              · by_cases hsm : -1099511627776 < n
                · have hng : wrap64 (-n) = -n := by unfold wrap64; omega
                  by_cases hyes : -n ≤ s
                  · have t4 : giveB L (j : Int) (-n) = true := by rw [hgv]; simp; omega
                    have hLn : bGive L (j : Int) (-n) = bset L (j : Int) (max (ls.getD j 0) 0, s + n) := by unfold bGive; rw [t4, hlm, hus, hld.out, show s - -n = s + n by omega]; rfl
                    replace t4 := Lib.hid t4; replace hLn := Lib.hid hLn
                    clear ht hgv hlm hus
                    go_wp2_with fail
                    refine (give_i K4.out hLl.out (j : Int) (-n)).mono ?_
                    rintro r w5 ⟨rfl, B, F⟩
                    rw [t4.out]
                    rw [hLn.out] at B
                    have O5a := O4.out.frb F (fun b hb hh => hgx.out (by cases hb; exact hh))
                    have HB5a := HB4.out.trans (F.below HB4.out.size low.out)
                    have hjS : j < ss.length := by rw [hsl.out]; exact hj
                    have hst : OwnE kE_i (w5.setCell ⟨g0, j, none⟩ (.int .i64 (s + n))) w.heap.size (.slice (some ⟨g0, 0, none⟩) ls.length ls.length) (ss.set j (s + n)) := by
                      have h9 := OwnE.set (E := kE_i) (i := j) (j := 0) (u := .int .i64 (s + n)) (y := s + n) O5a hjS (by decide) rfl
                      rw [show j * kE_i.sz + 0 = j by show j * 1 + 0 = j; omega] at h9
                      exact h9
                    obtain ⟨hyc, hyf⟩ := OwnE.cel (E := kE_i) (j := 0) (u := .int .i64 (ss.getD j 0)) O5a hjS (by simp [kE_i, List.getD_eq_getElem?_getD, List.getElem?_eq_getElem hjS])
                    rw [show j * kE_i.sz + 0 = j by show j * 1 + 0 = j; omega] at hyc hyf
                    rw [← hsd.out] at hyc
                    have hw5 : wrap64 (s + n) = s + n := by unfold wrap64; omega
                    have hsl5 : Hid ((ss.set j (s + n)).length = ls.length) := Lib.hid (by rw [List.length_set]; exact hsl.out)
                    have hI5 := Lib.hid (hI.out.set hj hsl.out (s + n))
                    have hb5 : Hid (∀ i, i < ls.length → 0 ≤ (ss.set j (s + n)).getD i 0 ∧ (ss.set j (s + n)).getD i 0 ≤ max (ls.getD i 0) 0) := Lib.hid fun i hi => by
                      by_cases hij : i = j
                      · subst hij
                        rw [show (ss.set i (s + n)).getD i 0 = s + n by simp [hjS]]
                        rw [← hld.out]
                        omega
                      · rw [show (ss.set j (s + n)).getD i 0 = ss.getD i 0 by have : j ≠ i := fun e => hij e.symm; simp [List.getElem?_set, this]]
                        exact hb.out i hi
                    have hne : g0 ≠ p := fun e => hgx.out (.inl e)
                    have K5 : Hid (Bk_i (w5.setCell ⟨g0, j, none⟩ (.int .i64 (s + n))) p v (bset L (j : Int) (max (ls.getD j 0) 0, s + n))) := Lib.hid (B.fr (FrB.set w5 ⟨g0, j, none⟩ (.int .i64 (s + n))) (fun e => hne e.symm) (fun b hb e => hgx.out (.inr (by have e' : b = g0 := e; subst e'; exact hb))))
                    have O5 := Lib.hid hst
                    have HB5 : Hid (Below w.heap.size w (w5.setCell ⟨g0, j, none⟩ (.int .i64 (s + n)))) := Lib.hid (HB5a.trans ⟨rfl, rfl, rfl, by simp, fun b hb => Below.heap_setCell _ _ _ _ (by have := hgw.out; simp only; omega)⟩)
                    clear B F K4 O4 HB4 hst O5a HB5a hjS
                    go_wp2_with fail
                    go_loopw [106] (fun ii wr3 => ∃ (i : Nat), ii = .int .i64 i ∧ Hid (Bk_i wr3 p v (bset L (j : Int) (max (ls.getD j 0) 0, s + n))) ∧ Hid (OwnE kE_i wr3 w.heap.size (.slice (some ⟨g0, 0, none⟩) ls.length ls.length) (ss.set j (s + n))) ∧ Hid (i ≤ ls.length) ∧ Hid (Below w.heap.size w wr3)) (fun ii _ => ls.length - (intOf ii).toNat)
                    case atStart => exact ⟨0, rfl, K5, O5, Lib.hid (Nat.zero_le _), HB5⟩
                    case round =>
                      clear K5 O5 HB5
                      obtain ⟨i, rfl, K6, O6, hi, HB6⟩ := hrel
                      by_cases hil : i < ls.length
                      · have hi10 : i < 10 := by have := b1.out; omega
                        obtain ⟨b, off, e7, hbl, hc⟩ := row_getD HR.out hil
                        subst e7
                        have hz := (HB6.out.cell (p := ⟨b, off + i, none⟩) hbl).trans hc
                        have hSl : i < ((ss.set j (s + n))).length := by rw [hsl5.out]; exact hil
                        obtain ⟨hy, -⟩ := OwnE.cel (E := kE_i) (j := 0) (u := .int .i64 (((ss.set j (s + n))).getD i 0)) O6.out hSl (by simp [kE_i, List.getD_eq_getElem?_getD, List.getElem?_eq_getElem hSl])
                        rw [show i * kE_i.sz + 0 = i by show i * 1 + 0 = i; omega] at hy
                        have hu := hI5.out.used hil
                        have hlf := hI5.out.left hil
                        obtain ⟨hb5a, hb5b⟩ := hb5.out i hil
                        have hLl : ((bset L (j : Int) (max (ls.getD j 0) 0, s + n))).length ≤ 100000 := by rw [hI5.out.2.2]; have := b1.out; omega
                        replace hLl := Lib.hid hLl
                        have hgx1 := wf_bd (G.out (ls.getD i 0) (by simp [List.getD_eq_getElem?_getD, List.getElem?_eq_getElem hil]))
                        generalize ((ss.set j (s + n))).getD i 0 = sv at *
                        generalize ls.getD i 0 = lv at *
                        clear hbl hc hSl
                        by_cases hlv : 0 ≤ lv
                        · rw [show max lv 0 = lv by omega] at hlf hb5b
                          rw [show max (lv - sv) 0 = lv - sv by omega] at hlf
                          have hw : wrap64 (lv - sv) = lv - sv := by unfold wrap64; omega
                          have d1 : decide (sv < 0) = false := by simp; omega
                          have d2 : decide (lv < sv) = false := by simp; omega
                          go_wp2_with fail
                          go_quiet (first
                            | (go_at_call 29; refine Calls.quiet_of_same ((used_i (K6.out.drewN _) hLl.out (i : Int)).mono fun _ _ h => (⟨h.1.trans (by rw [hu]), h.2.symm⟩ : _ = Ending.returned (.int .i64 sv) ∧ _)))
                            | (go_at_call 28; refine Calls.quiet_of ((leftq_i (K6.out.drewN _) hLl.out (i : Int)).mono fun _ _ h => (⟨h.1.trans (by rw [hlf]), h.2⟩ : _ = Ending.returned (.int .i64 (lv - sv)) ∧ _))))
                          go_wp2
                          all_goals try (exfalso; omega)
                          all_goals exact ⟨⟨i + 1, by go_num, Lib.hid (K6.out.drewN _), Lib.hid (O6.out.drewN _), Lib.hid (by omega), Lib.hid (belowDrew HB6.out _)⟩, by simp [intOf]; omega⟩
                        · rw [show max lv 0 = 0 by omega] at hlf hb5b
                          obtain rfl : sv = 0 := by omega
                          rw [show max ((0 : Int) - 0) 0 = 0 by omega] at hlf
                          go_wp2_with fail
                          go_quiet (first
                            | (go_at_call 29; refine Calls.quiet_of_same ((used_i (K6.out.drewN _) hLl.out (i : Int)).mono fun _ _ h => (⟨h.1.trans (by rw [hu]), h.2.symm⟩ : _ = Ending.returned (.int .i64 0) ∧ _)))
                            | (go_at_call 28; refine Calls.quiet_of ((leftq_i (K6.out.drewN _) hLl.out (i : Int)).mono fun _ _ h => (⟨h.1.trans (by rw [hlf]), h.2⟩ : _ = Ending.returned (.int .i64 0) ∧ _))))
                          go_wp2
                          all_goals try (exfalso; omega)
                          all_goals exact ⟨⟨i + 1, by go_num, Lib.hid (K6.out.drewN _), Lib.hid (O6.out.drewN _), Lib.hid (by omega), Lib.hid (belowDrew HB6.out _)⟩, by simp [intOf]; omega⟩
                      · obtain rfl : i = ls.length := by have := hi.out; omega
                        go_wp2
                        exact ⟨⟨k + 1, _, _, by go_num, K6, hI5, hsl5, hb5, O6, Lib.hid (by omega), HB6⟩, by simp [intOf]; omega⟩
                  · have t4 : giveB L (j : Int) (-n) = false := by rw [hgv]; simp; omega
                    have hLn : bGive L (j : Int) (-n) = L := by unfold bGive; rw [t4]; rfl
                    replace t4 := Lib.hid t4; replace hLn := Lib.hid hLn
                    clear ht hgv hlm hus
                    go_wp2_with fail
                    refine (give_i K4.out hLl.out (j : Int) (-n)).mono ?_
                    rintro r w5 ⟨rfl, B, F⟩
                    rw [t4.out]
                    rw [hLn.out] at B
                    have K5 := Lib.hid B
                    have O5 := Lib.hid (O4.out.frb F (fun b hb hh => hgx.out (by cases hb; exact hh)))
                    have HB5 := Lib.hid (HB4.out.trans (F.below HB4.out.size low.out))
                    have hI5 := hI
                    have hsl5 := hsl
                    have hb5 := hb
                    clear B F K4 O4 HB4
                    go_wp2_with fail
                    go_loopw [106] (fun ii wr3 => ∃ (i : Nat), ii = .int .i64 i ∧ Hid (Bk_i wr3 p v L) ∧ Hid (OwnE kE_i wr3 w.heap.size (.slice (some ⟨g0, 0, none⟩) ls.length ls.length) ss) ∧ Hid (i ≤ ls.length) ∧ Hid (Below w.heap.size w wr3)) (fun ii _ => ls.length - (intOf ii).toNat)
                    case atStart => exact ⟨0, rfl, K5, O5, Lib.hid (Nat.zero_le _), HB5⟩
                    case round =>
                      clear K5 O5 HB5
                      obtain ⟨i, rfl, K6, O6, hi, HB6⟩ := hrel
                      by_cases hil : i < ls.length
                      · have hi10 : i < 10 := by have := b1.out; omega
                        obtain ⟨b, off, e7, hbl, hc⟩ := row_getD HR.out hil
                        subst e7
                        have hz := (HB6.out.cell (p := ⟨b, off + i, none⟩) hbl).trans hc
                        have hSl : i < (ss).length := by rw [hsl5.out]; exact hil
                        obtain ⟨hy, -⟩ := OwnE.cel (E := kE_i) (j := 0) (u := .int .i64 ((ss).getD i 0)) O6.out hSl (by simp [kE_i, List.getD_eq_getElem?_getD, List.getElem?_eq_getElem hSl])
                        rw [show i * kE_i.sz + 0 = i by show i * 1 + 0 = i; omega] at hy
                        have hu := hI5.out.used hil
                        have hlf := hI5.out.left hil
                        obtain ⟨hb5a, hb5b⟩ := hb5.out i hil
                        have hLl : (L).length ≤ 100000 := by rw [hI5.out.2.2]; have := b1.out; omega
                        replace hLl := Lib.hid hLl
                        have hgx1 := wf_bd (G.out (ls.getD i 0) (by simp [List.getD_eq_getElem?_getD, List.getElem?_eq_getElem hil]))
                        generalize (ss).getD i 0 = sv at *
                        generalize ls.getD i 0 = lv at *
                        clear hbl hc hSl
                        by_cases hlv : 0 ≤ lv
                        · rw [show max lv 0 = lv by omega] at hlf hb5b
                          rw [show max (lv - sv) 0 = lv - sv by omega] at hlf
                          have hw : wrap64 (lv - sv) = lv - sv := by unfold wrap64; omega
                          have d1 : decide (sv < 0) = false := by simp; omega
                          have d2 : decide (lv < sv) = false := by simp; omega
                          go_wp2_with fail
                          go_quiet (first
                            | (go_at_call 29; refine Calls.quiet_of_same ((used_i (K6.out.drewN _) hLl.out (i : Int)).mono fun _ _ h => (⟨h.1.trans (by rw [hu]), h.2.symm⟩ : _ = Ending.returned (.int .i64 sv) ∧ _)))
                            | (go_at_call 28; refine Calls.quiet_of ((leftq_i (K6.out.drewN _) hLl.out (i : Int)).mono fun _ _ h => (⟨h.1.trans (by rw [hlf]), h.2⟩ : _ = Ending.returned (.int .i64 (lv - sv)) ∧ _))))
                          go_wp2
                          all_goals try (exfalso; omega)
                          all_goals exact ⟨⟨i + 1, by go_num, Lib.hid (K6.out.drewN _), Lib.hid (O6.out.drewN _), Lib.hid (by omega), Lib.hid (belowDrew HB6.out _)⟩, by simp [intOf]; omega⟩
                        · rw [show max lv 0 = 0 by omega] at hlf hb5b
                          obtain rfl : sv = 0 := by omega
                          rw [show max ((0 : Int) - 0) 0 = 0 by omega] at hlf
                          go_wp2_with fail
                          go_quiet (first
                            | (go_at_call 29; refine Calls.quiet_of_same ((used_i (K6.out.drewN _) hLl.out (i : Int)).mono fun _ _ h => (⟨h.1.trans (by rw [hu]), h.2.symm⟩ : _ = Ending.returned (.int .i64 0) ∧ _)))
                            | (go_at_call 28; refine Calls.quiet_of ((leftq_i (K6.out.drewN _) hLl.out (i : Int)).mono fun _ _ h => (⟨h.1.trans (by rw [hlf]), h.2⟩ : _ = Ending.returned (.int .i64 0) ∧ _))))
                          go_wp2
                          all_goals try (exfalso; omega)
                          all_goals exact ⟨⟨i + 1, by go_num, Lib.hid (K6.out.drewN _), Lib.hid (O6.out.drewN _), Lib.hid (by omega), Lib.hid (belowDrew HB6.out _)⟩, by simp [intOf]; omega⟩
                      · obtain rfl : i = ls.length := by have := hi.out; omega
                        go_wp2
                        exact ⟨⟨k + 1, _, _, by go_num, K6, hI5, hsl5, hb5, O6, Lib.hid (by omega), HB6⟩, by simp [intOf]; omega⟩
                · clear ht hgv hlm hus
                  have K5 := K4
                  have O5 := O4
                  have HB5 := HB4
                  have hI5 := hI
                  have hsl5 := hsl
                  have hb5 := hb
                  clear K4 O4 HB4
                  go_wp2_with fail
                  go_loopw [106] (fun ii wr3 => ∃ (i : Nat), ii = .int .i64 i ∧ Hid (Bk_i wr3 p v L) ∧ Hid (OwnE kE_i wr3 w.heap.size (.slice (some ⟨g0, 0, none⟩) ls.length ls.length) ss) ∧ Hid (i ≤ ls.length) ∧ Hid (Below w.heap.size w wr3)) (fun ii _ => ls.length - (intOf ii).toNat)
                  case atStart => exact ⟨0, rfl, K5, O5, Lib.hid (Nat.zero_le _), HB5⟩
                  case round =>
                    clear K5 O5 HB5
                    obtain ⟨i, rfl, K6, O6, hi, HB6⟩ := hrel
                    by_cases hil : i < ls.length
                    · have hi10 : i < 10 := by have := b1.out; omega
                      obtain ⟨b, off, e7, hbl, hc⟩ := row_getD HR.out hil
                      subst e7
                      have hz := (HB6.out.cell (p := ⟨b, off + i, none⟩) hbl).trans hc
                      have hSl : i < (ss).length := by rw [hsl5.out]; exact hil
                      obtain ⟨hy, -⟩ := OwnE.cel (E := kE_i) (j := 0) (u := .int .i64 ((ss).getD i 0)) O6.out hSl (by simp [kE_i, List.getD_eq_getElem?_getD, List.getElem?_eq_getElem hSl])
                      rw [show i * kE_i.sz + 0 = i by show i * 1 + 0 = i; omega] at hy
                      have hu := hI5.out.used hil
                      have hlf := hI5.out.left hil
                      obtain ⟨hb5a, hb5b⟩ := hb5.out i hil
                      have hLl : (L).length ≤ 100000 := by rw [hI5.out.2.2]; have := b1.out; omega
                      replace hLl := Lib.hid hLl
                      have hgx1 := wf_bd (G.out (ls.getD i 0) (by simp [List.getD_eq_getElem?_getD, List.getElem?_eq_getElem hil]))
                      generalize (ss).getD i 0 = sv at *
                      generalize ls.getD i 0 = lv at *
                      clear hbl hc hSl
                      by_cases hlv : 0 ≤ lv
                      · rw [show max lv 0 = lv by omega] at hlf hb5b
                        rw [show max (lv - sv) 0 = lv - sv by omega] at hlf
                        have hw : wrap64 (lv - sv) = lv - sv := by unfold wrap64; omega
                        have d1 : decide (sv < 0) = false := by simp; omega
                        have d2 : decide (lv < sv) = false := by simp; omega
                        go_wp2_with fail
                        go_quiet (first
                          | (go_at_call 29; refine Calls.quiet_of_same ((used_i (K6.out.drewN _) hLl.out (i : Int)).mono fun _ _ h => (⟨h.1.trans (by rw [hu]), h.2.symm⟩ : _ = Ending.returned (.int .i64 sv) ∧ _)))
                          | (go_at_call 28; refine Calls.quiet_of ((leftq_i (K6.out.drewN _) hLl.out (i : Int)).mono fun _ _ h => (⟨h.1.trans (by rw [hlf]), h.2⟩ : _ = Ending.returned (.int .i64 (lv - sv)) ∧ _))))
                        go_wp2
                        all_goals try (exfalso; omega)
                        all_goals exact ⟨⟨i + 1, by go_num, Lib.hid (K6.out.drewN _), Lib.hid (O6.out.drewN _), Lib.hid (by omega), Lib.hid (belowDrew HB6.out _)⟩, by simp [intOf]; omega⟩
                      · rw [show max lv 0 = 0 by omega] at hlf hb5b
                        obtain rfl : sv = 0 := by omega
                        rw [show max ((0 : Int) - 0) 0 = 0 by omega] at hlf
                        go_wp2_with fail
                        go_quiet (first
                          | (go_at_call 29; refine Calls.quiet_of_same ((used_i (K6.out.drewN _) hLl.out (i : Int)).mono fun _ _ h => (⟨h.1.trans (by rw [hu]), h.2.symm⟩ : _ = Ending.returned (.int .i64 0) ∧ _)))
                          | (go_at_call 28; refine Calls.quiet_of ((leftq_i (K6.out.drewN _) hLl.out (i : Int)).mono fun _ _ h => (⟨h.1.trans (by rw [hlf]), h.2⟩ : _ = Ending.returned (.int .i64 0) ∧ _))))
                        go_wp2
                        all_goals try (exfalso; omega)
                        all_goals exact ⟨⟨i + 1, by go_num, Lib.hid (K6.out.drewN _), Lib.hid (O6.out.drewN _), Lib.hid (by omega), Lib.hid (belowDrew HB6.out _)⟩, by simp [intOf]; omega⟩
                    · obtain rfl : i = ls.length := by have := hi.out; omega
                      go_wp2
                      exact ⟨⟨k + 1, _, _, by go_num, K6, hI5, hsl5, hb5, O6, Lib.hid (by omega), HB6⟩, by simp [intOf]; omega⟩
          · go_wp2
            go_ret
            exact ⟨rfl, HB4.out⟩
end Go.Proofs.Ytdgcppglpmlgkaa
