/- PollTurns: the law, walked: whatever the three numbers are, the answer is true. No condition. -/
import Derived.Test.YtblapbnplflghaaPlAl
import Derived.Test.YtblapbnplflghaaKt3
import Derived.Test.YtblapbnplflghaaBits
import Derived.Test.YtblapbnplflghaaMake
import Derived.Test.YtblapbnplflghaaSeq
import Derived.Lib.MinMax
import Derived.Deep.DeepCutAuto
import Derived.Deep.CutBlock
namespace Go.Proofs.Ytblapbnplflghaa
open Go.RowKit
set_option linter.unusedVariables false
set_option linter.unusedSimpArgs false
set_option linter.unusedSectionVars false
set_option maxRecDepth 100000

theorem mask_nt (j : Nat) (m : Int) (hm : (bv m).toNat = 2 ^ j - 1) (hj : j < 64) (a : Int) : ∃ K : Nat, bits .and .i64 a m = (K : Int) ∧ K < 2 ^ j := by
  have := and_mask j m hm hj a
  have hp : (0 : Int) < ((2 ^ j : Nat) : Int) := by exact_mod_cast Nat.two_pow_pos j
  refine ⟨(a % (2 ^ j : Nat)).toNat, by rw [this, Int.toNat_of_nonneg (Int.emod_nonneg _ (by omega))], ?_⟩
  have h1 := Int.emod_lt_of_pos a hp
  have h2 := Int.emod_nonneg a (show ((2 ^ j : Nat) : Int) ≠ 0 by omega)
  omega
theorem make_in {t : TypeId} (ht : Try.prog.underlying t = some (.slice 3)) (n : Nat) (hn : n ≤ 1000000) : ∃ Z : Array Value, (∀ j : Nat, j < n → Z[j]? = some (.int .i64 0)) ∧ ∀ w : World, (Instr.makeSlice t (.int .i64 (n : Int)) (.int .i64 (n : Int))).run Try.prog w = .ok (.slice (some ⟨w.heap.size, 0, none⟩) n n) (w.alloc (.cells Z 3)) := by
  obtain ⟨Z, s1, z1, k1⟩ := make_eq ht info3 rfl rfl .i64 .i64 n (by omega) (by omega)
  refine ⟨Z, fun j hj => ?_, k1⟩
  have h1 := z1 j 0 hj (by decide)
  rw [Nat.mul_one, Nat.add_zero] at h1
  rw [h1]; rfl

set_option maxHeartbeats 16000000 in
theorem turns13_walk (a0 a1 a2 : Int) (w : World) :
    Calls Try.prog 5 #[.int .i64 a0, .int .i64 a1, .int .i64 a2] w fun e w' => e = .returned (.bool true) ∧ Below w.heap.size w w' := by
  have al := Lib.hid (alive13_c w)
  obtain ⟨n0, en, hn0⟩ := mask_nt 3 7 (by decide) (by decide) a0
  obtain ⟨m0, em, hm0⟩ := mask_nt 3 7 (by decide) (by decide) a1
  obtain ⟨t0, et, ht0⟩ := mask_nt 6 63 (by decide) (by decide) a2
  replace hn0 : n0 < 8 := hn0
  replace hm0 : m0 < 8 := hm0
  replace ht0 : t0 < 64 := ht0
  obtain ⟨n, hn⟩ : ∃ n, n = n0 + 1 := ⟨_, rfl⟩
  obtain ⟨mo, hmo⟩ : ∃ n, n = m0 + 1 := ⟨_, rfl⟩
  have e1 : 1 + (n0 : Int) = (n : Int) := by omega
  have e2 : 1 + (m0 : Int) = (mo : Int) := by omega
  have w1 : wrap64 (1 + (n0 : Int)) = (n : Int) := by unfold wrap64; omega
  have w2 : wrap64 (1 + (m0 : Int)) = (mo : Int) := by unfold wrap64; omega
  have hn8 : n ≤ 8 := by omega
  have hm8 : mo ≤ 8 := by omega
  have hnp : 0 < n := by omega
  have hmp : 0 < mo := by omega
  replace hn := Lib.hid hn; replace hmo := Lib.hid hmo
  go_enter Try.func5, Try.ntmps5
  go_wp2_with fail
  refine al.out.mono ?_
  rintro e w1 ⟨rfl, F⟩
  have B1 := Lib.hid F
  clear F
  go_wp2_with fail
  refine (newQ_c w1 0 n mo 0 n mo rfl (by unfold mx0; omega) (by unfold mx0; omega) (by omega)).mono ?_
  rintro e w2 ⟨q, l, L, M, rfl, Q, l1, l2, l3, l4, B⟩
  have QH := Lib.hid Q
  have nw := Lib.hid (fun w3 p g Bx c (N : NewP w2 w3 q l L M 0 n mo n [] p g Bx c) => StP.new (Below.refl w1.heap.size w1) l1 l2 l3 l4 B N)
  clear Q l1 l2 l3 l4 B
  go_wp2_with fail
  refine (new_p QH.out (n : Int) (n : Int) (by unfold clampN; omega) (cap := n) (by unfold clampN; omega)).mono ?_
  rintro e w3 ⟨p, g, Bx, c, rfl, N⟩
  have S0 := nw.out w3 p g Bx c N
  obtain ⟨D, hD⟩ : ∃ D : PoD, D = ⟨p, g, Bx, c, q, l, L, M, n, n, 0, mo⟩ := ⟨_, rfl⟩
  obtain ⟨rfl, rfl⟩ : p = D.p ∧ q = D.q := by rw [hD]; exact ⟨rfl, rfl⟩
  have hDd : D.cap = n ∧ D.n = n ∧ D.t = 0 ∧ D.mo = mo := by rw [hD]; exact ⟨rfl, rfl, rfl, rfl⟩
  rw [← hD, ← tuG_zero] at S0
  have K0 := Lib.hid S0
  have dd := Lib.hid hDd
  clear QH nw N hD hDd S0
  go_wp2_with fail
  go_loopw [37] (fun ii wr => ∃ k : Nat, ii = .int .i64 k ∧ Hid (k ≤ n) ∧ Hid (StP w1 wr D (tuG n k) (tuN k) [] 0)) (fun ii _ => n - (intOf ii).toNat)
  case atStart => exact ⟨0, rfl, Lib.hid (Nat.zero_le _), K0⟩
  case round =>
    clear K0
    obtain ⟨k, rfl, hk, S⟩ := hrel
    by_cases hlt : k < n
    · have hk1 : k < (tuG n k).length := by rw [tuG_len]; exact hlt
      have hk2 : k < (tuG1 n k).length := by rw [tuG1_len]; exact hlt
      have hk3 : k < (tuG n (k + 1)).length := by rw [tuG_len]; exact hlt
      have op := open_p S.out.S hk1
      rw [(tu_open hk1).1, (tu_open hk1).2] at op
      have wt := Lib.hid (fun w' (h : PoS w' D (tuG1 n k) (tuN k) [] 0) => (watch_p h hk2 (k : Int) 1 0))
      have wt2 := Lib.hid (tu_watch hk2)
      have ps := Lib.hid (fun w' (h : PoS w' D (tuG n (k + 1)) (tuN k) [] 0) => post_p h hk3 1)
      have ps2 := Lib.hid (tu_post (D := D) hlt dd.out.1)
      have hlH := Lib.hid hlt
      have hk8 : k < 9 := by omega
      replace op := Lib.hid op
      go_wp2_with fail
      refine op.out.mono ?_
      rintro e w5 ⟨rfl, P5, F5⟩
      have S5 := Lib.hid (S.out.op P5 F5)
      have wc := wt.out _ S5.out.S
      rw [wt2.out.1, wt2.out.2, if_pos rfl, show ([] : List Th).erase (2, (k : Int)) = [] from rfl] at wc
      replace wc := Lib.hid wc
      clear P5 F5 S op wt wt2
      go_wp2_with fail
      refine wc.out.mono ?_
      rintro e w6 ⟨rfl, P6, F6⟩
      have S6 := Lib.hid (S5.out.op P6 F6)
      have pc := ps.out _ S6.out.S
      rw [ps2.out.1, ps2.out.2.1, ps2.out.2.2] at pc
      replace pc := Lib.hid pc
      clear P6 F6 S5 wc ps ps2
      go_wp2_with fail
      refine pc.out.mono ?_
      rintro e w7 ⟨rfl, P7, F7⟩
      have S7 := Lib.hid (S6.out.op P7 F7)
      clear P7 F7 S6 pc
      go_wp2
      go_roundw
      case rel => exact ⟨k + 1, by go_num, hlH, S7⟩
      case measure => have := hlH.out; simp [intOf]; omega
    · obtain rfl : n = k := by have := hk.out; omega
      obtain ⟨Z, hZ, kZ⟩ := make_in (t := 51) Try.underlying51 n (by omega)
      have hW := Lib.hid hZ
      have I0 := Lib.hid (TuI.start (n := n) (mo := mo) hn8)
      clear hZ hk hlt
      go_wp2_with fail
      have S0 := Lib.hid (show TuS w1 (wr.alloc (.cells Z 3)) D n 0 (tuG n n) (tuN n) [] 0 wr.heap.size from
        ⟨S.out.below (blA (Below.refl _ _) _), fun j hj => by rw [cntT_zero]; exact Cel.new wr Z 3 j _ (hW.out j hj), fun k hk e => by have := S.out.S.lt hk; omega, S.out.B.size⟩)
      clear kZ hW S
      generalize wr.alloc (.cells Z 3) = w4 at *
      generalize wr.heap.size = Y at *
      go_loopw [62] (fun ii wr => ∃ (t : Nat) (gs : List G) (ns : List (Int × Int)) (T : List Th) (f : Nat), ii = .int .i64 t ∧ Hid (t ≤ t0) ∧ Hid (TuI n mo t gs ns T f) ∧ Hid (TuS w1 wr D n t gs ns T f Y)) (fun ii _ => t0 - (intOf ii).toNat)
      case atStart => exact ⟨0, _, _, _, _, rfl, Lib.hid (Nat.zero_le _), I0, S0⟩
      case round =>
        clear I0 S0
        obtain ⟨t, gs, ns, T, f, rfl, ht, I, S⟩ := hrel
        by_cases hlt : t < t0
        · have st := settle_p S.out.S.S
          rw [I.out.g, dd.out.2.2.1, dd.out.2.1, dd.out.2.2.2, I.out.settle hnp] at st
          dsimp only at st
          replace st := Lib.hid st
          have I2 := Lib.hid (TuI.next (n := n) (mo := mo) (t := t) hnp hmp)
          obtain ⟨hd1, -⟩ := cyc_tail (n := n) (b := t) (len := min n mo) (by omega)
          have hcl := Lib.hid (cyc_len n t (min n mo))
          have hne : cyc n t (min n mo) ≠ [] := fun e => by rw [e] at hd1; cases hd1
          obtain ⟨d, hd⟩ : ∃ d, t % n = d := ⟨_, rfl⟩
          have hdn : d < n := by rw [← hd]; exact Nat.mod_lt _ hnp
          have hH := Lib.hid (show (cyc n t (min n mo)).headD (0, 0) = (2, (d : Int)) by
            rw [List.headD_eq_head?_getD, hd1, hd]; rfl)
          have hE := Lib.hid (show decide (cyc n t (min n mo) ≠ []) = true from decide_eq_true hne)
          replace hd := Lib.hid hd
          have hlH := Lib.hid hlt
          have ht65 : t < 64 := by omega
          have mn : min (n : Int) (mo : Int) = ((min n mo : Nat) : Int) := by omega
          have cnt64 := cntT_le n t d
          generalize cyc n t (min n mo) = C at *
          generalize (t + min n mo) % n = f2 at *
          clear hd1 hne
          go_wp2_with fail
          refine st.out.mono ?_
          rintro e w5 ⟨rfl, P5, F5⟩
          have S5 := Lib.hid (S.out.op P5 F5)
          have lq := lenQ_c S5.out.S.S.qu
          rw [hcl.out] at lq
          have pq := Lib.hid (popQ_c S5.out.S.S.qu)
          generalize min n mo = mm at *
          replace lq := Lib.hid lq
          clear P5 F5 S st hcl
          go_wp2_with fail
          refine lq.out.mono ?_
          rintro e w6 ⟨rfl, rfl⟩
          replace pq := pq.out
          rw [hH.out, hE.out] at pq
          unfold thV at pq
          dsimp only at pq
          replace pq := Lib.hid pq
          clear lq hH hE
          go_wp2_with fail
          refine pq.out.mono ?_
          rintro e w7 ⟨rfl, Q7, F7⟩
          have S7 := Lib.hid (S5.out.que Q7 F7)
          have FA := blA (Below.refl w7.heap.size w7) (.cells #[.int .i64 2, .int .i64 d] 45)
          have S8 := Lib.hid (S7.out.below FA)
          have z0 := (Cel.new w7 #[.int .i64 2, .int .i64 d] 45 0 _ rfl).1
          have z1 := Lib.hid (Cel.new w7 #[.int .i64 2, .int .i64 d] 45 1 _ rfl)
          have z1c := z1.out.1
          have nz := Lib.hid (show (∀ k, D.own k → k ≠ w7.heap.size) ∧ Y ≠ w7.heap.size from ⟨fun k hk e => by have := S7.out.S.S.lt hk; omega, fun e => by have := (S7.out.c 0 hnp).lt; omega⟩)
          have hda : d < (tuA n).length := by rw [tuA_len]; exact hdn
          have tl := tell_p S8.out.S.S hda
          rw [(tu_tell hda).1, (tu_tell hda).2] at tl
          replace tl := Lib.hid tl
          clear Q7 F7 FA S7 S5 pq
          go_wp2_with fail
          generalize w7.alloc (.cells #[.int .i64 2, .int .i64 d] 45) = w8 at *
          generalize w7.heap.size = Z8 at *
          refine tl.out.mono ?_
          rintro e w9 ⟨rfl, P9, F9⟩
          have S9 := Lib.hid (S8.out.op P9 F9)
          have z9 := z1.out.frb F9 (fun e => nz.out.1 _ (PoD.F_own e) rfl)
          obtain ⟨z9c, z9f⟩ := z9
          obtain ⟨y9, y9f⟩ := S9.out.c d hdn
          have hYZ : ¬ (Y = Z8) := nz.out.2
          have hZY : ¬ (Z8 = Y) := fun e => nz.out.2 e.symm
          have S10 := Lib.hid (S9.out.count hd.out)
          generalize cntT n t d = cn at *
          clear P9 F9 S8 tl z0 z1 z1c S9 nz
          go_wp2
          go_roundw
          case rel => exact ⟨t + 1, _, _, _, _, by go_num, hlH, I2, S10⟩
          case measure => have := hlH.out; simp [intOf]; omega
        · obtain rfl : t0 = t := by have := ht.out; omega
          have m0 := Lib.hid (show mmI n t0 0 t0 0 from ⟨.inl rfl, .inl rfl⟩)
          have t64 : t0 < 64 := ht0
          clear hlt
          go_wp2_with fail
          go_loopw [15, 16, 115] (fun aa bb ii wx => ∃ i lv gv : Nat, ii = .int .i64 i ∧ aa = .int .i64 lv ∧ bb = .int .i64 gv ∧ Hid (i ≤ n) ∧ Hid (mmI n t0 i lv gv) ∧ wx = wr) (fun _ _ ii _ => n - (intOf ii).toNat)
          case atStart => exact ⟨0, t0, 0, rfl, rfl, rfl, Lib.hid (Nat.zero_le _), m0, rfl⟩
          case round =>
            clear m0
            obtain ⟨i, lv, gv, rfl, rfl, rfl, hi, m, rfl⟩ := hrel
            by_cases hlt : i < n
            · obtain ⟨y0, -⟩ := S.out.c i hlt
              have m2 := Lib.hid (m.out.step hlt rfl)
              generalize cntT n t0 i = cv at *
              have x1 : min (lv : Int) (cv : Int) = ((if cv < lv then cv else lv : Nat) : Int) := by split <;> omega
              have x2 : max (gv : Int) (cv : Int) = ((if gv < cv then cv else gv : Nat) : Int) := by split <;> omega
              generalize (if cv < lv then cv else lv) = lv2 at *
              generalize (if gv < cv then cv else gv) = gv2 at *
              have hlH := Lib.hid hlt
              have hi9 : i < 9 := by omega
              go_wp2
              go_roundw
              case rel => exact ⟨i + 1, lv2, gv2, by go_num, rfl, rfl, hlH, m2, trivial⟩
              case measure => have := hlH.out; simp [intOf]; omega
            · have hen := m.out.end hnp
              have hlv : lv ≤ t0 := by
                rcases m.out.1 with e | ⟨j, -, e⟩
                · omega
                · rw [e]; exact cntT_le _ _ _
              have hgv : gv ≤ t0 := by
                rcases m.out.2 with e | ⟨j, -, e⟩
                · omega
                · rw [e]; exact cntT_le _ _ _
              have d1 : decide ((gv : Int) - (lv : Int) ≤ 1) = true := decide_eq_true (by omega)
              have BB := Lib.hid (B1.out.trans (S.out.S.B.mono B1.out.size))
              go_wp2
              go_ret
              exact ⟨rfl, BB.out⟩
end Go.Proofs.Ytblapbnplflghaa
