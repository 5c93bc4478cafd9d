/- PollEdges: the law, walked: of every row of things that come the answer is true. Condition: the row that comes in lies in memory as the row says. -/
import Derived.Test.YtblapbnplflghaaPlAl
import Derived.Test.YtblapbnplflghaaKd
import Derived.Test.YtblapbnplflghaaOp13
import Derived.Test.YtblapbnplflghaaBits
import Derived.Test.YtblapbnplflghaaSeq
import Derived.Test.YtblapbnplflghaaOwn
import Derived.ChangeKeysEq
import Derived.Deep.DeepCutAuto
import Derived.Deep.CutBlock
namespace Go.Proofs.Ytblapbnplflghaa
open Go.RowKit
set_option linter.unusedVariables false
set_option linter.unusedSimpArgs false
set_option linter.unusedSectionVars false
set_option maxRecDepth 100000

theorem mask_ne (j : Nat) (m : Int) (hm : (bv m).toNat = 2 ^ j - 1) (hj : j < 64) (a : Int) : ∃ K : Nat, bits .and .i64 a m = (K : Int) ∧ K < 2 ^ j := by
  have := and_mask j m hm hj a
  have hp : (0 : Int) < ((2 ^ j : Nat) : Int) := by exact_mod_cast Nat.two_pow_pos j
  refine ⟨(a % (2 ^ j : Nat)).toNat, by rw [this, Int.toNat_of_nonneg (Int.emod_nonneg _ (by omega))], ?_⟩
  have h1 := Int.emod_lt_of_pos a hp
  have h2 := Int.emod_nonneg a (show ((2 ^ j : Nat) : Int) ≠ 0 by omega)
  omega
/-- Two rows of four numbers that are the same. -/
theorem eqArr4 (a b c d : Int) : ∀ w, (Op.equalIn 10000 43 (.agg #[.int .i64 a, .int .i64 b, .int .i64 c, .int .i64 d]) (.agg #[.int .i64 a, .int .i64 b, .int .i64 c, .int .i64 d])).run Try.prog w = .ok true w := fun w => by
  obtain ⟨i, hi, -⟩ := info_parts info3
  have e0 : ∀ x : Int, (Op.equalIn 9999 3 (.int .i64 x) (.int .i64 x)).run Try.prog w = .ok true w := fun x => by
    rw [run_equalIn_int w 9998 3 .i64 .i64 x x Try.underlying3]; simp
  have p0 : (part 3 #[.int .i64 a, .int .i64 b, .int .i64 c, .int .i64 d] (0 * 1)).run Try.prog w = .ok (.int .i64 a) w := by go_simp
  have p1 : (part 3 #[.int .i64 a, .int .i64 b, .int .i64 c, .int .i64 d] (1 * 1)).run Try.prog w = .ok (.int .i64 b) w := by go_simp
  have p2 : (part 3 #[.int .i64 a, .int .i64 b, .int .i64 c, .int .i64 d] (2 * 1)).run Try.prog w = .ok (.int .i64 c) w := by go_simp
  have p3 : (part 3 #[.int .i64 a, .int .i64 b, .int .i64 c, .int .i64 d] (3 * 1)).run Try.prog w = .ok (.int .i64 d) w := by go_simp
  rw [run_equalIn_array (w := w) 9999 _ _ Try.underlying43 hi, show Try.prog.cellsOf 3 = 1 by kernel_rfl, show List.range 4 = [0, 1, 2, 3] from rfl]
  simp only [Op.eqItems, Sem.run_bind, p0, p1, p2, p3, e0, Result.andThen_ok, Bool.not_true, Bool.false_eq_true, if_false, Sem.run_pure]

def edG (k : Nat) : List G := (List.range 4).map (fun d => if d < k then gE d 0 0 0 else noG)
def edG1 (k : Nat) : List G := (edG k).set k ⟨true, 0, 0, 0, 0, 0, 0⟩
theorem edG_len (k : Nat) : (edG k).length = 4 := by simp [edG]
theorem edG1_len (k : Nat) : (edG1 k).length = 4 := by simp [edG1, edG_len]
theorem ed_open {k : Nat} (h : k < (edG k).length) : (edG k).set k (openG (edG k)[k]) = edG1 k ∧ (!(edG k)[k].op) = true := by
  have e : (edG k)[k] = noG := by simp [edG]
  rw [e]; exact ⟨rfl, rfl⟩
theorem and07 : bits .and .i64 0 7 = 0 := by decide
theorem ed_watch {k : Nat} (h : k < (edG1 k).length) : (edG1 k).set k (watchG (edG1 k)[k] ((k : Int) + 1) 7 1) = edG (k + 1) ∧ watchB (edG1 k)[k] 7 1 = true := by
  have e : (edG1 k)[k] = ⟨true, 0, 0, 0, 0, 0, 0⟩ := by simp [edG1]
  have hb : watchB ⟨true, 0, 0, 0, 0, 0, 0⟩ 7 1 = true := by decide
  rw [e]
  refine ⟨?_, hb⟩
  have hw : watchG ⟨true, 0, 0, 0, 0, 0, 0⟩ ((k : Int) + 1) 7 1 = gE k 0 0 0 := by unfold watchG; rw [if_pos hb, and07]; rfl
  rw [hw]
  apply List.ext_getElem
  · simp [edG1, edG]
  · intro i h1 h2
    rw [List.getElem_set]
    by_cases hik : k = i
    · subst hik; simp [edG]
    · rw [if_neg hik]
      simp only [edG1, List.getElem_set_ne hik]
      simp only [edG, List.getElem_map, List.getElem_range]
      by_cases hlt : i < k
      · rw [if_pos hlt, if_pos (by omega)]
      · rw [if_neg hlt, if_neg (by omega)]
theorem edG_zero : List.replicate 4 noG = edG 0 := by decide
theorem edG_all : EO (edG 4) [] (fun _ => 0) := by
  have : edG 4 = [gE 0 0 0 0, gE 1 0 0 0, gE 2 0 0 0, gE 3 0 0 0] := by decide
  rw [this]; exact EO.start

/-- The poll, and the law's own row beside it. -/
structure EdT (w wr : World) (D : PoD) (gs : List G) (ns : List (Int × Int)) (T : List Th) (f : Nat) (O : Nat → Int) (Y : Nat) : Prop where
  S : StP w wr D gs ns T f
  ry : ∀ k, k < 4 → Cel wr Y k (.int .i64 (O k))
  ny : ∀ k, D.own k → k ≠ Y
  lo : w.heap.size ≤ Y
section
variable {w wr w2 : World} {D : PoD} {gs gs' : List G} {ns ns' : List (Int × Int)} {T T' : List Th} {f f' : Nat} {O L : Nat → Int} {Y V : Nat}
theorem EdT.op (h : EdT w wr D gs ns T f O Y) (K : PoS w2 D gs' ns' T' f') (F : FrB D.F wr w2) : EdT w w2 D gs' ns' T' f' O Y :=
  ⟨h.S.op K F, fun k hk => (h.ry k hk).frb F (fun e => h.ny _ (PoD.F_own e) rfl), h.ny, h.lo⟩
theorem EdT.below (h : EdT w wr D gs ns T f O Y) (F : Below wr.heap.size wr w2) : EdT w w2 D gs ns T f O Y :=
  ⟨h.S.below F, fun k hk => (h.ry k hk).frb (FrB.of_below (S := fun _ => False) F (Nat.le_refl _)) (fun h => h), h.ny, h.lo⟩
theorem StP.sideE (h : StP w wr D gs ns T f) {b : Nat} (F : FrB (fun k => k = b) wr w2) (hb : ∀ k, D.own k → k ≠ b) (hl : w.heap.size ≤ b) : StP w w2 D gs ns T f :=
  ⟨h.S.fr F (fun k hk e => hb k hk e), h.B.trans (F.below h.B.size (fun k hk e => by omega)), h.lo⟩
theorem EdT.side (h : EdT w wr D gs ns T f O Y) {b : Nat} (F : FrB (fun k => k = b) wr w2) (hb : ∀ k, D.own k → k ≠ b) (hl : w.heap.size ≤ b) (hy : Y ≠ b) : EdT w w2 D gs ns T f O Y :=
  ⟨h.S.sideE F hb hl, fun k hk => (h.ry k hk).frb F hy, h.ny, h.lo⟩
theorem EdT.setY (h : EdT w wr D gs ns T f O Y) {K : Nat} (v : Int) : EdT w (wr.setCell ⟨Y, K, none⟩ (.int .i64 v)) D gs ns T f (upF O K v) Y := by
  have F : FrB (fun k => k = Y) wr (wr.setCell ⟨Y, K, none⟩ (.int .i64 v)) := FrB.set wr ⟨Y, K, none⟩ _
  refine ⟨h.S.sideE F h.ny h.lo, fun k hk => ?_, h.ny, h.lo⟩
  by_cases e : k = K
  · subst e
    rw [show upF O k v k = v by simp [upF]]
    exact (h.ry k hk).same _
  · rw [show upF O K v k = O k by simp [upF, e]]
    exact (h.ry k hk).other (.inr (fun h => e h.symm)) _
theorem EdT.congr (h : EdT w wr D gs ns T f O Y) (e : ∀ k, k < 4 → O k = L k) : EdT w wr D gs ns T f L Y := ⟨h.S, fun k hk => e k hk ▸ h.ry k hk, h.ny, h.lo⟩
/-- What was told of them is written down as well. -/
structure EdV (w wr : World) (D : PoD) (gs : List G) (ns : List (Int × Int)) (T : List Th) (f : Nat) (O : Nat → Int) (Y : Nat) (L : Nat → Int) (V : Nat) : Prop where
  t : EdT w wr D gs ns T f O Y
  v : EdT w wr D gs ns T f L V
  yv : Y ≠ V
theorem EdV.op (h : EdV w wr D gs ns T f O Y L V) (K : PoS w2 D gs' ns' T' f') (F : FrB D.F wr w2) : EdV w w2 D gs' ns' T' f' O Y L V := ⟨h.t.op K F, h.v.op K F, h.yv⟩
theorem EdV.below (h : EdV w wr D gs ns T f O Y L V) (F : Below wr.heap.size wr w2) : EdV w w2 D gs ns T f O Y L V := ⟨h.t.below F, h.v.below F, h.yv⟩
theorem EdV.side (h : EdV w wr D gs ns T f O Y L V) {b : Nat} (F : FrB (fun k => k = b) wr w2) (hb : ∀ k, D.own k → k ≠ b) (hl : w.heap.size ≤ b) (hy : Y ≠ b) (hv : V ≠ b) : EdV w w2 D gs ns T f O Y L V :=
  ⟨h.t.side F hb hl hy, h.v.side F hb hl hv, h.yv⟩
theorem EdV.setV (h : EdV w wr D gs ns T f O Y L V) {K : Nat} (x : Int) : EdV w (wr.setCell ⟨V, K, none⟩ (.int .i64 x)) D gs ns T f O Y (upF L K x) V :=
  ⟨h.t.side (FrB.set wr ⟨V, K, none⟩ _) h.v.ny h.v.lo h.yv, h.v.setY x, h.yv⟩
theorem EdV.que (h : EdV w wr D gs ns T f O Y L V) (Q : QS w2 D.q D.l D.L D.M D.t D.n D.mo T') (F : Fr (quS D.q D.L D.M) wr w2) : EdV w w2 D gs ns T' f O Y L V := h.op (h.t.S.S.que Q F) (PoD.F_que F)
end
/-- How many devices wait. -/
def heldM (w : World) (q : Nat) : Nat := match w.cell? ⟨q, 4, none⟩ with
  | some (.int _ v) => v.toNat
  | _ => 0
theorem QS.heldM {w : World} {q p L M t d mo : Nat} {T : List Th} (h : QS w q p L M t d mo T) : heldM w q = heldT T := by
  unfold Go.Proofs.Ytblapbnplflghaa.heldM
  rw [h.c4.1]; simp
theorem held_Qn {n : Nat} {T : List Th} (h : Qn n T) : heldT T = T.length := by
  unfold heldT
  rw [List.countP_eq_length]
  intro y hy
  obtain ⟨k, -, rfl⟩ := h.2 y hy
  simp

set_option maxHeartbeats 16000000 in
theorem edges13_walk (a0 : Int) (A1 : Option Addr) (c1 : Nat) (xs : List Op13) (a2 : Int) (w : World) (hr1 : RowAt Op13.cells 5 w A1 xs) :
    Calls Try.prog 4 #[.int .i64 a0, .slice A1 xs.length c1, .int .i64 a2] w fun e w' => e = .returned (.bool true) ∧ Below w.heap.size w w' := by
  have al := Lib.hid (alive13_c w)
  have R1 := Lib.hid hr1
  obtain ⟨NA, hA⟩ : ∃ n, n = xs.length := ⟨_, rfl⟩
  rw [← hA]
  replace hA := Lib.hid hA
  clear hr1
  by_cases hbig : 40 < NA
  · have d1 : decide ((40 : Int) < (NA : Int)) = true := decide_eq_true (by omega)
    have d2 : decide (40 < NA) = true := decide_eq_true hbig
    go_enter Try.func4, Try.ntmps4
    go_wp2_with fail
    refine al.out.mono ?_
    rintro e w1 ⟨rfl, F⟩
    replace F := Lib.hid F
    go_wp2
    go_ret
    exact ⟨rfl, F.out⟩
  have d1 : decide ((40 : Int) < (NA : Int)) = false := decide_eq_false (by omega)
  have d2 : decide (40 < NA) = false := decide_eq_false hbig
  have hA40 : NA ≤ 40 := by omega
  clear hbig
  obtain ⟨Rm, eR, hR⟩ := mask_ne 3 7 (by decide) (by decide) a0
  replace hR : Rm < 8 := hR
  obtain ⟨Of, eO, hO8⟩ := mask_ne 3 7 (by decide) (by decide) a2
  replace hO8 : Of < 8 := hO8
  go_enter Try.func4, Try.ntmps4
  go_wp2_with fail
  refine al.out.mono ?_
  rintro e w1 ⟨rfl, F⟩
  have B1 := Lib.hid F
  clear F
  go_wp2_with fail
  refine (newQ_c w1 0 4 4 0 4 4 rfl rfl rfl (by decide)).mono ?_
  rintro e w2 ⟨q, l, L, M, rfl, Q, l1, l2, l3, l4, B⟩
  have QH := Lib.hid Q
  have nw := Lib.hid (fun w3 p g Bx c (N : NewP w2 w3 q l L M 0 4 4 Rm [] p g Bx c) => StP.new (Below.refl w1.heap.size w1) l1 l2 l3 l4 B N)
  clear Q l1 l2 l3 l4 B
  go_wp2_with fail
  refine (new_p QH.out 4 (Rm : Int) (by decide) (cap := Rm) (by unfold clampN; omega)).mono ?_
  rintro e w3 ⟨p, g, Bx, c, rfl, N⟩
  have S0 := nw.out w3 p g Bx c N
  obtain ⟨D, hD⟩ : ∃ D : PoD, D = ⟨p, g, Bx, c, q, l, L, M, 4, Rm, 0, 4⟩ := ⟨_, rfl⟩
  obtain ⟨rfl, rfl⟩ : p = D.p ∧ q = D.q := by rw [hD]; exact ⟨rfl, rfl⟩
  have hDd : D.n = 4 ∧ D.t = 0 ∧ D.mo = 4 := by rw [hD]; exact ⟨rfl, rfl, rfl⟩
  rw [← hD, edG_zero] at S0
  have K0 := Lib.hid S0
  have dd := Lib.hid hDd
  clear QH nw N hD hDd S0
  go_wp2_with fail
  go_loopw [28] (fun ii wr => ∃ k : Nat, ii = .int .i64 k ∧ Hid (k ≤ 4) ∧ Hid (StP w1 wr D (edG k) [] [] 0)) (fun ii _ => 4 - (intOf ii).toNat)
  case atStart => exact ⟨0, rfl, Lib.hid (Nat.zero_le _), K0⟩
  case round =>
    clear K0
    obtain ⟨k, rfl, hk, S⟩ := hrel
    by_cases hlt : k < 4
    · have hk1 : k < (edG k).length := by rw [edG_len]; exact hlt
      have hk2 : k < (edG1 k).length := by rw [edG1_len]; exact hlt
      have op := open_p S.out.S hk1
      rw [(ed_open hk1).1, (ed_open hk1).2] at op
      have wt := Lib.hid (fun w' (h : PoS w' D (edG1 k) [] [] 0) => (watch_p h hk2 ((k : Int) + 1) 7 1))
      have wt2 := Lib.hid (ed_watch hk2)
      have hlH := Lib.hid hlt
      have hk8 : k < 5 := by omega
      replace op := Lib.hid op
      go_wp2_with fail
      refine op.out.mono ?_
      rintro e w5 ⟨rfl, P5, F5⟩
      have S5 := Lib.hid (S.out.op P5 F5)
      have wc := wt.out _ S5.out.S
      rw [wt2.out.1, wt2.out.2, if_pos rfl, show ([] : List Th).erase (2, (k : Int)) = [] from rfl] at wc
      replace wc := Lib.hid wc
      clear P5 F5 S op wt wt2
      go_wp2_with fail
      refine wc.out.mono ?_
      rintro e w6 ⟨rfl, P6, F6⟩
      have S6 := Lib.hid (S5.out.op P6 F6)
      clear P6 F6 S5 wc
      go_wp2
      go_roundw
      case rel => exact ⟨k + 1, by go_num, hlH, S6⟩
      case measure => have := hlH.out; simp [intOf]; omega
    · have hk4 : k = 4 := by have := hk.out; omega
      rw [hk4] at S
      clear hk4
      have FY := blA (Below.refl wr.heap.size wr) (.cells #[.int .i64 0, .int .i64 0, .int .i64 0, .int .i64 0] 43)
      have E0 := Lib.hid (show EdT w1 (wr.alloc (.cells #[.int .i64 0, .int .i64 0, .int .i64 0, .int .i64 0] 43)) D (edG 4) [] [] 0 (fun _ => 0) wr.heap.size from
        ⟨S.out.below FY, fun k hk => by
          have : (#[.int .i64 0, .int .i64 0, .int .i64 0, .int .i64 0] : Array Value)[k]? = some (.int .i64 0) := by
            have : k = 0 ∨ k = 1 ∨ k = 2 ∨ k = 3 := by omega
            rcases this with rfl | rfl | rfl | rfl <;> rfl
          exact Cel.new wr _ _ k _ this, fun k hk e => by have := S.out.S.lt hk; omega, S.out.B.size⟩)
      have I0 := Lib.hid edG_all
      clear FY S hk
      go_wp2_with fail
      generalize wr.alloc (.cells #[.int .i64 0, .int .i64 0, .int .i64 0, .int .i64 0] 43) = w4 at *
      generalize wr.heap.size = Y at *
      go_loopw [48] (fun ii wr => ∃ (i : Nat) (gs : List G) (ns : List (Int × Int)) (O : Nat → Int), ii = .int .i64 i ∧ Hid (i ≤ NA) ∧ Hid (EO gs ns O) ∧ Hid (EdT w1 wr D gs ns [] 0 O Y)) (fun ii _ => NA - (intOf ii).toNat)
      case atStart => exact ⟨0, _, _, _, rfl, Lib.hid (Nat.zero_le _), I0, E0⟩
      case round =>
        clear I0 E0
        obtain ⟨i, gs, ns, O, rfl, hi, I, S⟩ := hrel
        by_cases hlt : i < NA
        · have hlx : i < xs.length := by rw [← hA.out]; exact hlt
          obtain ⟨bb, off, rfl, hbl, c0, c1, c2, c3, c4⟩ := R1.out.op13 hlx
          generalize xs[i] = z at *
          obtain ⟨zk, zd, zm, zh, zo⟩ := z
          dsimp only at c0 c1 c2 c3 c4
          have Bw := B1.out.trans (S.out.S.B.mono B1.out.size)
          replace c0 := (Bw.cell (p := ⟨bb, off + i * 5, none⟩) hbl).trans c0
          replace c1 := (Bw.cell (p := ⟨bb, off + i * 5 + 1, none⟩) hbl).trans c1
          replace c2 := (Bw.cell (p := ⟨bb, off + i * 5 + 2, none⟩) hbl).trans c2
          replace c3 := (Bw.cell (p := ⟨bb, off + i * 5 + 3, none⟩) hbl).trans c3
          replace c4 := (Bw.cell (p := ⟨bb, off + i * 5 + 4, none⟩) hbl).trans c4
          have hlH := Lib.hid hlt
          have hi40 : i < 41 := by omega
          obtain ⟨K, eK, hK⟩ := mask_ne 2 3 (by decide) (by decide) zd
          replace hK : K < 4 := hK
          obtain ⟨Mk, eM, hM⟩ := mask_ne 3 7 (by decide) (by decide) zm
          replace hM : Mk < 8 := hM
          have FA := blA (Below.refl wr.heap.size wr) (.cells #[.int .i64 zk, .int .i64 zd, .int .i64 zm, .int .u64 zh, .int .i64 zo] 32)
          have y1 := Lib.hid (Cel.new wr #[.int .i64 zk, .int .i64 zd, .int .i64 zm, .int .u64 zh, .int .i64 zo] 32 1 _ rfl)
          have y2 := Lib.hid (Cel.new wr #[.int .i64 zk, .int .i64 zd, .int .i64 zm, .int .u64 zh, .int .i64 zo] 32 2 _ rfl)
          have nz := Lib.hid (show (∀ k, D.own k → k ≠ wr.heap.size) ∧ Y ≠ wr.heap.size from ⟨fun k hk e => by have := S.out.S.S.lt hk; omega, fun e => by have := (S.out.ry 0 (by decide)).lt; omega⟩)
          replace S := Lib.hid (S.out.below FA)
          have hKg : K < gs.length := by rw [I.out.len]; exact hK
          have po := Lib.hid (post_p S.out.S.S hKg zm)
          have I2 := Lib.hid (I.out.post (D := D) hKg eM hM)
          have y1c := y1.out.1; have y2c := y2.out.1
          clear FA Bw hbl hKg I
          generalize postG D gs ns K zm = gs2 at *
          generalize postN D gs ns K zm = ns2 at *
          go_wp2_with fail
          generalize wr.alloc (.cells #[.int .i64 zk, .int .i64 zd, .int .i64 zm, .int .u64 zh, .int .i64 zo] 32) = w5 at *
          generalize wr.heap.size = Z at *
          clear c0 c1 c2 c3 c4
          refine po.out.mono ?_
          rintro e w6 ⟨rfl, K6, F6⟩
          have S7 := Lib.hid (S.out.op K6 F6)
          have z1 := Lib.hid (y1.out.frb F6 (fun e => nz.out.1 _ (PoD.F_own e) rfl))
          have z2 := Lib.hid (y2.out.frb F6 (fun e => nz.out.1 _ (PoD.F_own e) rfl))
          have hK4 : (K : Int) < 4 := by omega
          clear K6 F6 S y1 y2 y1c y2c po
          go_wp2_with fail
          refine seq_startM 10 [(0, true), (1, true), (2, true), (3, true), (4, true), (5, true), (6, true), (7, true), (8, true), (9, true), (10, false)] (fun w' => w'.cell? ⟨Y, K, none⟩ = some (.int .i64 (O K)) ∧ w'.cell? ⟨Z, 1, none⟩ = some (.int .i64 zd) ∧ w'.cell? ⟨Z, 2, none⟩ = some (.int .i64 zm)) (by kernel_rfl) (by kernel_rfl) rfl (by kernel_rfl) ⟨((S7.out.ry K hK).drew).1, z1.out.drew.1, z2.out.drew.1⟩ ?_
          iterate 10 (refine seq_read rfl (by first | rfl | (go_simp; done)) (fun w' hw => by obtain ⟨s0, s1, s2⟩ := hw; go_simp; with_reducible rfl) ?_; try simp only [Act.put, List.setIfInBounds_toArray, List.set_cons_zero, List.set_cons_succ])
          replace S7 := Lib.hid (S7.out.below (w2 := w6.drew) ⟨rfl, rfl, rfl, Nat.le_refl _, fun _ _ => rfl⟩)
          have S8 := Lib.hid (S7.out.setY (K := K) (bits .or .i64 (O K) (Mk : Int)))
          obtain ⟨yc1, yc2⟩ := S7.out.ry K hK
          clear S7 z1 z2 nz
          generalize w6.drew = w7 at *
          refine seq_last rfl (fun K2 hK2 => ?_)
          go_simp
          refine hK2.out _ _ ?_
          clear hK2 K2 yc1 yc2
          go_wp2
          go_roundw
          case rel => exact ⟨i + 1, _, _, _, by go_num, hlH, I2, S8⟩
          case measure => have := hlH.out; simp [intOf]; omega
        · clear hi
          go_upto_if 73 with fail
          clear hlt
          go_cut [] (fun wx => ∃ (gs : List G) (ns : List (Int × Int)) (O : Nat → Int), Hid (EI gs ns O) ∧ Hid (EdT w1 wx D gs ns [] 0 O Y))
          case first =>
            by_cases hof : Of < 4
            · have t0 : decide ((Of : Int) < 4) = true := decide_eq_true (by omega)
              have hOg : Of < gs.length := by rw [I.out.len]; exact hof
              have cp := close_p S.out.S.S hOg
              rw [(I.out.close hOg).1, if_pos rfl, if_pos rfl, show ([] : List Th).erase (2, (Of : Int)) = [] from rfl] at cp
              have I2 := Lib.hid (I.out.close hOg).2
              replace cp := Lib.hid cp
              have hofH := Lib.hid hof
              clear hOg
              go_wp2_with fail
              refine cp.out.mono ?_
              rintro e w6 ⟨rfl, K6, F6⟩
              have S7 := Lib.hid (S.out.op K6 F6)
              obtain ⟨yc1, yc2⟩ := S7.out.ry Of hofH.out
              have S8 := Lib.hid (S7.out.setY (K := Of) 0)
              clear K6 F6 S cp S7
              go_wp2_with fail
              go_meet
              exact ⟨_, _, _, I2, S8⟩
            · have t0 : decide ((Of : Int) < 4) = false := decide_eq_false (by omega)
              have t0n : decide (Of < 4) = false := decide_eq_false hof
              go_wp2_with fail
              go_meet
              exact ⟨_, _, _, Lib.hid I.out.toI, S⟩
          clear I S
          obtain ⟨gs, ns, O, I, S⟩ := hcut
          go_wp2_with fail
          go_loopw [79] (fun jj wr => ∃ (j : Nat) (gs : List G) (ns : List (Int × Int)) (f : Nat) (O : Nat → Int), jj = .int .i64 j ∧ Hid (j ≤ 2) ∧ Hid (EI gs ns O) ∧ Hid (EdT w1 wr D gs ns [] f O Y)) (fun jj _ => 2 - (intOf jj).toNat)
          case atStart => exact ⟨0, _, _, _, _, rfl, Lib.hid (Nat.zero_le _), I, S⟩
          case round =>
            clear I S
            obtain ⟨j, gs, ns, f, O, rfl, hj, I, S⟩ := hrel
            by_cases hlt : j < 2
            · have hlH := Lib.hid hlt
              have hj3 : j < 3 := by omega
              have st := settle_p S.out.S.S
              rw [dd.out.1, dd.out.2.1, dd.out.2.2] at st
              have E := Lib.hid (I.out.settle.start f f)
              generalize (meetsG gs ns).map flushG = gs2 at *
              generalize (setQ gs2 0 4 4 f 4 ([], f)).1 = T2 at *
              generalize (setQ gs2 0 4 4 f 4 ([], f)).2 = f2 at *
              replace st := Lib.hid st
              clear I
              go_wp2_with fail
              refine st.out.mono ?_
              rintro e w5 ⟨rfl, P5, F5⟩
              have S5 := S.out.op P5 F5
              have FV := blA (Below.refl w5.heap.size w5) (.cells #[.int .i64 0, .int .i64 0, .int .i64 0, .int .i64 0] 43)
              have SV := Lib.hid (show EdV w1 (w5.alloc (.cells #[.int .i64 0, .int .i64 0, .int .i64 0, .int .i64 0] 43)) D gs2 [] T2 f2 O Y (fun _ => 0) w5.heap.size from
                ⟨S5.below FV, ⟨S5.S.below FV, fun k hk => by
                  have : (#[.int .i64 0, .int .i64 0, .int .i64 0, .int .i64 0] : Array Value)[k]? = some (.int .i64 0) := by
                    have : k = 0 ∨ k = 1 ∨ k = 2 ∨ k = 3 := by omega
                    rcases this with rfl | rfl | rfl | rfl <;> rfl
                  exact Cel.new w5 _ _ k _ this, fun k hk e => by have := S5.S.S.lt hk; omega, S5.S.B.size⟩, fun e => by have := (S5.ry 0 (by decide)).lt; omega⟩)
              have pq := Lib.hid (popQ_c SV.out.t.S.S.qu)
              clear P5 F5 S st S5 FV
              go_wp2_with fail
              generalize w5.alloc (.cells #[.int .i64 0, .int .i64 0, .int .i64 0, .int .i64 0] 43) = w6 at *
              generalize w5.heap.size = V at *
              refine pq.out.mono ?_
              rintro e w7 ⟨rfl, Q7, F7⟩
              have S7 := SV.out.que Q7 F7
              unfold thV
              have zz := Lib.hid (And.intro (Cel.new w7 #[.int .i64 (T2.headD (0, 0)).1, .int .i64 (T2.headD (0, 0)).2] 45 0 _ rfl) (Cel.new w7 #[.int .i64 (T2.headD (0, 0)).1, .int .i64 (T2.headD (0, 0)).2] 45 1 _ rfl))
              have nz := Lib.hid (show (∀ k, D.own k → k ≠ w7.heap.size) ∧ Y ≠ w7.heap.size ∧ V ≠ w7.heap.size ∧ w1.heap.size ≤ w7.heap.size from ⟨fun k hk e => by have := S7.t.S.S.lt hk; omega, fun e => by have := (S7.t.ry 0 (by decide)).lt; omega, fun e => by have := (S7.v.ry 0 (by decide)).lt; omega, S7.t.S.B.size⟩)
              have S8 := Lib.hid (S7.below (blA (Below.refl w7.heap.size w7) (.cells #[.int .i64 (T2.headD (0, 0)).1, .int .i64 (T2.headD (0, 0)).2] 45)))
              obtain ⟨y, hy⟩ : ∃ y, y = T2.headD (0, 0) := ⟨_, rfl⟩
              obtain ⟨ok, hok⟩ : ∃ y, y = decide (T2 ≠ []) := ⟨_, rfl⟩
              rw [← hy] at zz S8 ⊢
              rw [← hok]
              replace hy := Lib.hid hy; replace hok := Lib.hid hok
              clear Q7 F7 S7 SV pq
              obtain ⟨ya, yb⟩ := y
              dsimp only at zz S8 ⊢
              go_wp2_with fail
              generalize w7.alloc (.cells #[.int .i64 ya, .int .i64 yb] 45) = w8 at *
              generalize w7.heap.size = Z8 at *
              go_loopw [14, 15] (fun zp kk wr => ∃ (Z : Nat) (y : Th) (ok : Bool) (T : List Th) (gs : List G) (L : Nat → Int), zp = .pointer (some ⟨Z, 0, none⟩) ∧ kk = .bool ok ∧ Hid (Cel wr Z 0 (.int .i64 y.1) ∧ Cel wr Z 1 (.int .i64 y.2)) ∧ Hid ((∀ k, D.own k → k ≠ Z) ∧ Y ≠ Z ∧ V ≠ Z ∧ w1.heap.size ≤ Z) ∧ Hid (y = T.headD (0, 0)) ∧ Hid (ok = decide (T ≠ [])) ∧ Hid (EQ gs T O L) ∧ Hid (EdV w1 wr D gs [] T.tail f2 O Y L V)) (fun _ kk wr => heldM wr D.q + boolN kk)
              case atStart => exact ⟨_, (ya, yb), ok, T2, gs2, _, rfl, rfl, zz, nz, hy, hok, E, S8⟩
              case round =>
                clear zz nz hy hok E S8
                obtain ⟨Z, y, ok, T, gs, L, rfl, rfl, zz, nz, hy, hok, E, S⟩ := hrel
                cases ok with
                | true =>
                  have hT : T ≠ [] := of_decide_eq_true hok.out.symm
                  obtain ⟨k, t, hk, hk4, hh, ht0, ht8, hma, hwh, hL0, E2⟩ := E.out.pop hT
                  rw [hh] at hy
                  obtain rfl : y = (2, (k : Int)) := hy.out
                  have hH := Lib.hid (held_Qn E2.q)
                  replace E2 := Lib.hid E2
                  have tl := tell_p S.out.t.S.S hk
                  rw [hma, hwh] at tl
                  replace tl := Lib.hid tl
                  have z1c := zz.out.2.1
                  try dsimp only at z1c
                  have hlen := Lib.hid (show T.tail.length + 1 = T.length by cases T with | nil => exact absurd rfl hT | cons _ _ => rfl)
                  generalize gs.set k (tellG gs[k]) = gs3 at *
                  clear E hT hh hma hwh hok hy
                  go_wp2_with fail
                  refine tl.out.mono ?_
                  rintro e w9 ⟨rfl, P9, F9⟩
                  have S9 := Lib.hid (S.out.op P9 F9)
                  have z9 := Lib.hid (zz.out.1.frb F9 (fun e => nz.out.1 _ (PoD.F_own e) rfl))
                  have z9b := Lib.hid (zz.out.2.frb F9 (fun e => nz.out.1 _ (PoD.F_own e) rfl))
                  have z9c := z9b.out.1
                  try dsimp only at z9c
                  obtain ⟨v9, v9f⟩ := S9.out.v.ry k hk4
                  rw [hL0] at v9
                  have o1 : bits .or .i64 0 (t : Int) = (t : Int) := by
                    have := (or8 (a := 0) (b := t) (by omega) ht8).1
                    simpa using this
                  have k4i : (k : Int) < 4 := by omega
                  have tq : ((t : Int) == 0) = false := beq_eq_false_iff_ne.mpr (by omega)
                  have g3 : decide ((3 : Int) < (k : Int)) = false := decide_eq_false (by omega)
                  have S10 := Lib.hid (S9.out.setV (K := k) (t : Int))
                  have z9a := z9.out.1
                  try dsimp only at z9a
                  have hVZ : ¬ (V = Z) := nz.out.2.2.1
                  have hZV : ¬ (Z = V) := fun e => nz.out.2.2.1 e.symm
                  have FA := fun wa : World => blA (Below.refl wa.heap.size wa) (.cells #[.int .i64 2, .int .i64 k] 45)
                  have S11 := Lib.hid (S10.out.below (FA _))
                  have nz2 := Lib.hid (show (∀ k, D.own k → k ≠ w9.heap.size) ∧ Y ≠ w9.heap.size ∧ V ≠ w9.heap.size ∧ w1.heap.size ≤ w9.heap.size from ⟨fun k hk e => by have := S9.out.t.S.S.lt hk; omega, fun e => by have := (S9.out.t.ry 0 (by decide)).lt; omega, fun e => by have := (S9.out.v.ry 0 (by decide)).lt; omega, S9.out.t.S.B.size⟩)
                  have zn := Lib.hid (show Cel ((w9.setCell ⟨V, k, none⟩ (.int .i64 (t : Int))).alloc (.cells #[.int .i64 2, .int .i64 k] 45)) w9.heap.size 0 (.int .i64 2) ∧ Cel ((w9.setCell ⟨V, k, none⟩ (.int .i64 (t : Int))).alloc (.cells #[.int .i64 2, .int .i64 k] 45)) w9.heap.size 1 (.int .i64 k) from by
                    have a := Cel.new (w9.setCell ⟨V, k, none⟩ (.int .i64 (t : Int))) #[.int .i64 2, .int .i64 k] 45 0 _ rfl
                    have b := Cel.new (w9.setCell ⟨V, k, none⟩ (.int .i64 (t : Int))) #[.int .i64 2, .int .i64 k] 45 1 _ rfl
                    rw [World.size_setCell] at a b
                    exact ⟨a, b⟩)
                  have pq := Lib.hid (popQ_c S11.out.t.S.S.qu)
                  have hm0 := Lib.hid (show heldM wr D.q = T.tail.length from S.out.t.S.S.qu.heldM.trans hH.out)
                  clear P9 F9 tl zz z1c FA S10 S9 S
                  go_wp2_with fail
                  generalize (w9.setCell ⟨V, k, none⟩ (.int .i64 (t : Int))).alloc (.cells #[.int .i64 2, .int .i64 k] 45) = w10 at *
                  generalize w9.heap.size = Z10 at *
                  refine pq.out.mono ?_
                  rintro e w11 ⟨rfl, Q11, F11⟩
                  have hq := Lib.hid (show Qn 4 T.tail.tail from ⟨(E2.out.q.1.sublist (List.tail_sublist _)), fun y hy => E2.out.q.2 y (List.mem_of_mem_tail hy)⟩)
                  have FB := PoD.F_que (D := D) F11
                  have S12 := Lib.hid (S11.out.que Q11 F11)
                  have za := zn.out.1.frb FB (fun e => nz2.out.1 _ (PoD.F_own e) rfl)
                  have zb := zn.out.2.frb FB (fun e => nz2.out.1 _ (PoD.F_own e) rfl)
                  have zH := Lib.hid (And.intro za zb)
                  obtain ⟨za1, za2⟩ := za
                  obtain ⟨zb1, zb2⟩ := zb
                  clear Q11 F11 FB S11 zn pq v9 v9f z9a z9c z9 z9b nz hVZ hZV
                  generalize hTt : T.tail = Tt at *
                  unfold thV
                  obtain ⟨y', hy'⟩ : ∃ y, y = Tt.headD (0, 0) := ⟨_, rfl⟩
                  obtain ⟨ok', hok'⟩ : ∃ y, y = decide (Tt ≠ []) := ⟨_, rfl⟩
                  rw [← hy', ← hok']
                  have hms := Lib.hid (show heldT Tt.tail + boolN (.bool ok') < Tt.length + 1 from by
                    rw [held_Qn hq.out, hok']
                    cases Tt with
                    | nil => decide
                    | cons a r => show r.length + 1 < r.length + 1 + 1; omega)
                  replace hy' := Lib.hid hy'; replace hok' := Lib.hid hok'; replace hTt := Lib.hid hTt
                  obtain ⟨ya, yb⟩ := y'
                  dsimp only
                  go_wp2
                  have e0 := (zH.out.1.same (.int .i64 ya)).other (b' := Z10) (o' := 1) (.inr (by decide)) (.int .i64 yb)
                  have e1 := (zH.out.2.other (b' := Z10) (o' := 0) (.inr (by decide)) (.int .i64 ya)).same (.int .i64 yb)
                  have S13 := Lib.hid ((S12.out.side (FrB.set w11 ⟨Z10, 0, none⟩ (.int .i64 ya)) nz2.out.1 nz2.out.2.2.2 nz2.out.2.1 nz2.out.2.2.1).side (FrB.set _ ⟨Z10, 1, none⟩ (.int .i64 yb)) nz2.out.1 nz2.out.2.2.2 nz2.out.2.1 nz2.out.2.2.1)
                  go_roundw
                  case rel => exact ⟨Z10, (ya, yb), ok', Tt, gs3, _, rfl, rfl, Lib.hid ⟨e0, e1⟩, nz2, hy', hok', E2, S13⟩
                  case measure =>
                    rw [S13.out.t.S.S.qu.heldM, hm0.out]
                    have := hms.out
                    rw [show boolN (.bool true) = 1 from rfl]
                    omega
                | false =>
                  have hT : T = [] := by
                    apply Classical.byContradiction
                    intro h
                    have := hok.out
                    rw [decide_eq_true h] at this
                    cases this
                  subst hT
                  obtain ⟨hLO, I2⟩ := E.out.end
                  replace I2 := Lib.hid I2
                  have S14 := Lib.hid (S.out.t)
                  have eA := eqArr4 (O 0) (O 1) (O 2) (O 3)
                  obtain ⟨y0, fy0⟩ := S.out.t.ry 0 (by decide)
                  obtain ⟨y1, fy1⟩ := S.out.t.ry 1 (by decide)
                  obtain ⟨y2, fy2⟩ := S.out.t.ry 2 (by decide)
                  obtain ⟨y3, fy3⟩ := S.out.t.ry 3 (by decide)
                  obtain ⟨v0, fv0⟩ := S.out.v.ry 0 (by decide)
                  obtain ⟨v1, fv1⟩ := S.out.v.ry 1 (by decide)
                  obtain ⟨v2, fv2⟩ := S.out.v.ry 2 (by decide)
                  obtain ⟨v3, fv3⟩ := S.out.v.ry 3 (by decide)
                  rw [hLO 0 (by decide)] at v0
                  rw [hLO 1 (by decide)] at v1
                  rw [hLO 2 (by decide)] at v2
                  rw [hLO 3 (by decide)] at v3
                  have S15 := Lib.hid (((((S14.out.setY (K := 0) 0).setY (K := 1) 0).setY (K := 2) 0).setY (K := 3) 0).congr (L := fun _ => 0) (fun k hk => by
                    have : k = 0 ∨ k = 1 ∨ k = 2 ∨ k = 3 := by omega
                    rcases this with rfl | rfl | rfl | rfl <;> simp [upF]))
                  clear hLO zz nz hy hok E S fv0 fv1 fv2 fv3 S14
                  generalize O 0 = o0 at *
                  generalize O 1 = o1 at *
                  generalize O 2 = o2 at *
                  generalize O 3 = o3 at *
                  go_wp2
                  go_roundw
                  case rel => exact ⟨j + 1, _, _, _, _, by go_num, hlH, I2, S15⟩
                  case measure => have := hlH.out; simp [intOf]; omega
            · obtain rfl : 2 = j := by have := hj.out; omega
              have BB := Lib.hid (B1.out.trans (S.out.S.B.mono B1.out.size))
              clear I S
              go_wp2
              go_ret
              exact ⟨rfl, BB.out⟩
end Go.Proofs.Ytblapbnplflghaa
