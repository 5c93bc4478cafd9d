/- BoxKinds. -/
import Derived.Test.YtkpiphihmmhhpaaBb
import Derived.Test.YtkpiphihmmhhpaaBt
import Derived.Test.YtkpiphihmmhhpaaEq
import Derived.Test.YtkpiphihmmhhpaaBits
namespace Go.Proofs.Ytkpiphihmmhhpaa
open Go.RowKit Go.Conc
set_option linter.unusedVariables false
set_option linter.unusedSimpArgs false
set_option maxRecDepth 100000

theorem mask63 (a : Int) : ∃ K : Nat, bits .and .i64 a 63 = (K : Int) ∧ K < 64 := by
  have := and_mask 6 63 (by decide) (by decide) a
  rw [show ((2 ^ 6 : Nat) : Int) = 64 from rfl] at this
  exact ⟨(a % 64).toNat, by rw [this]; omega, by omega⟩

abbrev Tg := ByteArray × Int
def tgE : Enc Tg where
  t := 30
  sz := 2
  f := fun x => [.string x.1, .int .u64 x.2]
  z := .agg #[.string ⟨#[]⟩, .int .u64 0]
  bytes := 24
  len := fun x => rfl
  one := fun x v h => by simp at h; rcases h with rfl | rfl <;> rfl
  info := by kernel_rfl
  zs := rfl
  pos := by decide
  small := by decide
def tgV (x : Tg) : Value := .agg #[.string x.1, .int .u64 x.2]
theorem OwnE.atG {w : World} {base g n c i : Nat} {L : List Tg} (h : OwnE tgE w base (.slice (some ⟨g, 0, none⟩) n c) L) (hi : i < L.length) : Cel w g (i * 2) (.string L[i].1) ∧ Cel w g (i * 2 + 1) (.int .u64 L[i].2) :=
  ⟨OwnE.cel (E := tgE) (j := 0) h hi rfl, OwnE.cel (E := tgE) (j := 1) h hi rfl⟩
theorem eqTg (x y : Tg) (w : World) : (Op.equalIn 10000 30 (.agg #[.string x.1, .int .u64 x.2]) (.agg #[.string y.1, .int .u64 y.2])).run Try.prog w = .ok (x.1.toList == y.1.toList && (x.2 == y.2 && true)) w := by
  refine eqs_of (d := 9999) Try.underlying30 (by kernel_rfl) ?_
  refine eqs_cons (by rfl) (by go_simp; rfl) (by go_simp; rfl) (by go_simp) ?_
  refine eqs_cons (by rfl) (by go_simp; rfl) (by go_simp; rfl) (by go_simp) ?_
  exact eqs_nil
theorem eqTgT (x : ByteArray) (y : Int) : ∀ w, (Op.equalIn 10000 30 (.agg #[.string x, .int .u64 y]) (.agg #[.string x, .int .u64 y])).run Try.prog w = .ok true w := fun w => (eqTg (x, y) (x, y) w).trans (by simp)

/-- Two boxes that were made since w, and two slices of one's own behind E. -/
structure KiS (w wr : World) (B c B2 c2 cap E : Nat) (vx vy : Value) (X Y : List Tg) : Prop where
  t : TwoB w wr B c cap (X.map tgV) B2 c2 cap (Y.map tgV)
  x : OwnE tgE wr E vx X
  y : OwnE tgE wr E vy Y
  n : vx.ownBlock ≠ vy.ownBlock
  e : (B < E ∧ c < E) ∧ (B2 < E ∧ c2 < E) ∧ w.heap.size ≤ E ∧ E ≤ wr.heap.size
theorem KiS.below {w wr w2 : World} {B c B2 c2 cap E : Nat} {vx vy : Value} {X Y : List Tg} (h : KiS w wr B c B2 c2 cap E vx vy X Y) (F : Below wr.heap.size wr w2) : KiS w w2 B c B2 c2 cap E vx vy X Y :=
  ⟨h.t.below F, h.x.below F, h.y.below F, h.n, by have := h.e; have := F.size; omega⟩
/-- What was put into a box, ahead of its slice. -/
structure KiT (w wr : World) (B c B2 c2 cap E : Nat) (vx vy : Value) (X Y : List Tg) (P Q : List Tg) : Prop where
  t : TwoB w wr B c cap (P.map tgV) B2 c2 cap (Q.map tgV)
  x : OwnE tgE wr E vx X
  y : OwnE tgE wr E vy Y
  n : vx.ownBlock ≠ vy.ownBlock
  e : (B < E ∧ c < E) ∧ (B2 < E ∧ c2 < E) ∧ w.heap.size ≤ E ∧ E ≤ wr.heap.size
theorem KiS.opA {w wr w2 : World} {B c B2 c2 cap E : Nat} {vx vy : Value} {X Y P : List Tg} (h : KiS w wr B c B2 c2 cap E vx vy X Y) (K : BoxS w2 B c cap (P.map tgV)) (F : FrB (fun k => k = c) wr w2) : KiT w w2 B c B2 c2 cap E vx vy X Y P Y :=
  ⟨h.t.opA K F, h.x.frb F (fun k hk e => by have := (h.x.lt k hk).1; have := h.e; omega), h.y.frb F (fun k hk e => by have := (h.y.lt k hk).1; have := h.e; omega), h.n, by have := h.e; have := F.size; omega⟩
theorem KiS.opB {w wr w2 : World} {B c B2 c2 cap E : Nat} {vx vy : Value} {X Y P : List Tg} (h : KiS w wr B c B2 c2 cap E vx vy X Y) (K : BoxS w2 B2 c2 cap (P.map tgV)) (F : FrB (fun k => k = c2) wr w2) : KiT w w2 B c B2 c2 cap E vx vy X Y X P :=
  ⟨h.t.opB K F, h.x.frb F (fun k hk e => by have := (h.x.lt k hk).1; have := h.e; omega), h.y.frb F (fun k hk e => by have := (h.y.lt k hk).1; have := h.e; omega), h.n, by have := h.e; have := F.size; omega⟩
theorem KiT.below {w wr w2 : World} {B c B2 c2 cap E : Nat} {vx vy : Value} {X Y P Q : List Tg} (h : KiT w wr B c B2 c2 cap E vx vy X Y P Q) (F : Below wr.heap.size wr w2) : KiT w w2 B c B2 c2 cap E vx vy X Y P Q :=
  ⟨h.t.below F, h.x.below F, h.y.below F, h.n, by have := h.e; have := F.size; omega⟩
theorem KiT.s {w wr : World} {B c B2 c2 cap E : Nat} {vx vy : Value} {X Y : List Tg} (h : KiT w wr B c B2 c2 cap E vx vy X Y X Y) : KiS w wr B c B2 c2 cap E vx vy X Y := ⟨h.t, h.x, h.y, h.n, h.e⟩
theorem TwoB.grow {w wr w2 : World} {B c cap B2 c2 cap2 E : Nat} {buf buf2 : List Value} {v : Value} (h : TwoB w wr B c cap buf B2 c2 cap2 buf2) (hg : wr.grownBy w2 v.ownBlock) (hv : ∀ k, v.ownBlock = some k → E ≤ k) (he : (B < E ∧ c < E) ∧ (B2 < E ∧ c2 < E) ∧ w.heap.size ≤ E ∧ E ≤ wr.heap.size) : TwoB w w2 B c cap buf B2 c2 cap2 buf2 := by
  have hb := h.a.b.trans ((FrB.grown hg).below h.a.b.size (fun k hk e => by have := hv _ e; omega))
  exact ⟨⟨h.a.s.frb (FrB.grown hg) (fun e => by have := hv _ e; omega) (fun e => by have := hv _ e; omega), h.a.lo, hb⟩, ⟨h.b.s.frb (FrB.grown hg) (fun e => by have := hv _ e; omega) (fun e => by have := hv _ e; omega), h.b.lo, hb⟩, h.ne⟩
theorem KiT.growX {w wr w2 : World} {B c B2 c2 cap E : Nat} {vx vy v' : Value} {X X' Y P Q : List Tg} (h : KiT w wr B c B2 c2 cap E vx vy X Y P Q) (P1 : OwnE tgE w2 E v' X') (P3 : wr.grownBy w2 vx.ownBlock) (P4 : v'.ownBlock = vx.ownBlock ∨ v'.ownBlock = some wr.heap.size) : KiT w w2 B c B2 c2 cap E v' vy X' Y P Q :=
  ⟨h.t.grow P3 (fun k hk => (h.x.lt k hk).1) h.e, P1, h.y.beside P3 (.inl h.n), by
    rcases P4 with e | e
    · rw [e]; exact h.n
    · rw [e]; intro e2; have := (h.y.lt _ e2.symm).2; omega, by have := h.e; have := (FrB.grown P3).size; omega⟩
theorem KiT.growY {w wr w2 : World} {B c B2 c2 cap E : Nat} {vx vy v' : Value} {X Y Y' P Q : List Tg} (h : KiT w wr B c B2 c2 cap E vx vy X Y P Q) (P1 : OwnE tgE w2 E v' Y') (P3 : wr.grownBy w2 vy.ownBlock) (P4 : v'.ownBlock = vy.ownBlock ∨ v'.ownBlock = some wr.heap.size) : KiT w w2 B c B2 c2 cap E vx v' X Y' P Q :=
  ⟨h.t.grow P3 (fun k hk => (h.y.lt k hk).1) h.e, h.x.beside P3 (.inl (fun e => h.n e.symm)), P1, by
    rcases P4 with e | e
    · rw [e]; exact h.n
    · rw [e]; intro e2; have := (h.x.lt _ e2).2; omega, by have := h.e; have := (FrB.grown P3).size; omega⟩

set_option maxHeartbeats 8000000 in
theorem kinds_walk (a : Int) (A : Option Addr) (cA : Nat) (xs : List ByteArray) (N : Option Addr) (cN : Nat) (ns : List Int) (T : Option Addr) (cT : Nat) (ts : List Bool) (w : World) (hr : RowAt (fun z : ByteArray => [.string z]) 1 w A xs) (hn : RowAt (fun z : Int => [.int .u64 z]) 1 w N ns) (ht : RowAt (fun z : Bool => [.bool z]) 1 w T ts) :
    Calls Try.prog 3 #[.int .i64 a, .slice A xs.length cA, .slice N ns.length cN, .slice T ts.length cT] w fun e w' => e = .returned (.bool true) ∧ Below w.heap.size w w' := by
  have HR := Lib.hid hr; have HN := Lib.hid hn; have HT := Lib.hid ht
  clear hr hn ht
  by_cases hbig : 40 < xs.length
  · have hb1 : decide ((40 : Int) < (xs.length : Int)) = true := by simp; omega
    go_enter Try.func3, Try.ntmps3
    go_wp2_with fail
    refine (alive10_c w).mono ?_
    rintro e w1 ⟨rfl, hB1⟩
    have HB1 := Lib.hid hB1
    clear hB1
    go_wp2
    go_ret
    exact ⟨rfl, HB1.out⟩
  have hb1 : decide ((40 : Int) < (xs.length : Int)) = false := by simp; omega
  by_cases hsm : ns.length < xs.length
  · replace hbig := Lib.hid hbig
    have hb2 : decide ((ns.length : Int) < (xs.length : Int)) = true := by simp; omega
    have hb2n : decide (ns.length < xs.length) = true := by simp; omega
    go_enter Try.func3, Try.ntmps3
    go_wp2_with fail
    refine (alive10_c w).mono ?_
    rintro e w1 ⟨rfl, hB1⟩
    have HB1 := Lib.hid hB1
    clear hB1
    go_wp2
    go_ret
    exact ⟨rfl, HB1.out⟩
  have hb2 : decide ((ns.length : Int) < (xs.length : Int)) = false := by simp; omega
  have hb2n : decide (ns.length < xs.length) = false := by simp; omega
  by_cases hsm2 : ts.length < xs.length
  · replace hbig := Lib.hid hbig; replace hsm := Lib.hid hsm
    have hb3 : decide ((ts.length : Int) < (xs.length : Int)) = true := by simp; omega
    have hb3n : decide (ts.length < xs.length) = true := by simp; omega
    go_enter Try.func3, Try.ntmps3
    go_wp2_with fail
    refine (alive10_c w).mono ?_
    rintro e w1 ⟨rfl, hB1⟩
    have HB1 := Lib.hid hB1
    clear hB1
    go_wp2
    go_ret
    exact ⟨rfl, HB1.out⟩
  have hb3 : decide ((ts.length : Int) < (xs.length : Int)) = false := by simp; omega
  have hb3n : decide (ts.length < xs.length) = false := by simp; omega
  obtain ⟨cap, hcp, hcp2⟩ := mask63 a
  replace hbig := Lib.hid hbig; replace hsm := Lib.hid hsm; replace hsm2 := Lib.hid hsm2
  go_enter Try.func3, Try.ntmps3
  go_wp2_with fail
  refine (alive10_c w).mono ?_
  rintro e w1 ⟨rfl, hB1⟩
  have HB1 := Lib.hid hB1
  clear hB1
  go_wp2_with fail
  refine (new_thing w1 cap (cap := cap) (by unfold capN; omega)).mono ?_
  rintro e w2 ⟨B, c, rfl, S, l1, l2, F⟩
  have S0 := Lib.hid (show OneB w w2 B c cap [] from ⟨S, by have := HB1.out.size; omega, HB1.out.trans (F.mono HB1.out.size)⟩)
  clear S l1 l2 F HB1
  go_wp2_with fail
  refine (new_thing w2 cap (cap := cap) (by unfold capN; omega)).mono ?_
  rintro e w3 ⟨B2, c2, rfl, S, l1, l2, F⟩
  have S1 := TwoB.new S0.out S l1 l2 F
  have O1 := OwnE.lit (E := tgE) w3 w3.heap.size (Nat.le_refl _) [] #[] rfl (by simp)
  have O2 : OwnE tgE ((w3.alloc (.cells #[] 30)).alloc (.cells #[] 30)) w3.heap.size (.slice (some ⟨w3.heap.size + 1, 0, none⟩) 0 0) [] := by
    have e := OwnE.lit (E := tgE) (w3.alloc (.cells #[] 30)) w3.heap.size (by simp) [] #[] rfl (by simp)
    rw [World.size_alloc] at e
    exact e
  have B0 := Below.alloc (Below.alloc (Below.refl w3.heap.size w3) (Nat.le_refl _) (.cells #[] 30)) (by simp) (.cells #[] 30)
  have T1 : Hid (KiS w ((w3.alloc (.cells #[] 30)).alloc (.cells #[] 30)) B c B2 c2 cap w3.heap.size (.slice (some ⟨w3.heap.size, 0, none⟩) 0 0) (.slice (some ⟨w3.heap.size + 1, 0, none⟩) 0 0) [] []) :=
    Lib.hid ⟨S1.below B0, O1.alloc _, O2, by simp [Value.ownBlock], by have := S1.a.s.lt; have := S1.b.s.lt; have := S1.a.b.size; simp; omega⟩
  clear S l1 l2 F S0 S1 O1 O2 B0
  go_wp2_with fail
  generalize (w3.alloc (.cells #[] 30)).alloc (.cells #[] 30) = W2 at *
  generalize w3.heap.size = E at *
  go_loopw [11, 12, 51] (fun vx vy ii wr => ∃ (i : Nat) (X Y : List Tg), ii = .int .i64 i ∧ Hid (KiS w wr B c B2 c2 cap E vx vy X Y) ∧ Hid (X.length + Y.length ≤ i) ∧ Hid (i ≤ xs.length)) (fun _ _ ii _ => xs.length - (intOf ii).toNat)
  case atStart => exact ⟨0, [], [], rfl, T1, Lib.hid (Nat.zero_le _), Lib.hid (Nat.zero_le _)⟩
  case round =>
    clear T1
    obtain ⟨i, X, Y, rfl, S, hXY, hi⟩ := hrel
    by_cases hlt : i < xs.length
    · have hi61 : i < 41 := by have := hbig.out; omega
      have hlt2 : i < ns.length := by have := hsm.out; omega
      have hlt3 : i < ts.length := by have := hsm2.out; omega
      obtain ⟨b, off, rfl, hbl, hc⟩ := HR.out i hlt
      have hz0 := (S.out.t.a.b.cell (p := ⟨b, off + i * 1 + 0, none⟩) hbl).trans (hc 0 _ rfl)
      obtain ⟨b2, off2, rfl, hbl2, hc2⟩ := HN.out i hlt2
      have hz1 := (S.out.t.a.b.cell (p := ⟨b2, off2 + i * 1 + 0, none⟩) hbl2).trans (hc2 0 _ rfl)
      obtain ⟨b3, off3, rfl, hbl3, hc3⟩ := HT.out i hlt3
      have hz2 := (S.out.t.a.b.cell (p := ⟨b3, off3 + i * 1 + 0, none⟩) hbl3).trans (hc3 0 _ rfl)
      rw [Nat.add_zero, Nat.mul_one] at hz0 hz1 hz2
      obtain ⟨s, hs⟩ : ∃ s, s = xs[i] := ⟨_, rfl⟩
      obtain ⟨n, hn⟩ : ∃ n, n = ns[i] := ⟨_, rfl⟩
      obtain ⟨tk, htk⟩ : ∃ tk, tk = ts[i] := ⟨_, rfl⟩
      rw [← hs] at hz0
      rw [← hn] at hz1
      rw [← htk] at hz2
      have hB0 := Below.alloc (Below.refl wr.heap.size wr) (Nat.le_refl _) (.cells #[.string s, .int .u64 n] 30)
      have hz3 := (hB0.cell (p := ⟨b3, off3 + i, none⟩) (Nat.lt_of_lt_of_le hbl3 S.out.t.a.b.size)).trans hz2
      have hz4 := (hB0.cell (p := ⟨b2, off2 + i, none⟩) (Nat.lt_of_lt_of_le hbl2 S.out.t.a.b.size)).trans hz1
      have y0 := Lib.hid (Cel.new wr #[.string s, .int .u64 n] 30 0 _ rfl)
      have y1 := Lib.hid (Cel.new wr #[.string s, .int .u64 n] 30 1 _ rfl)
      have S1 := Lib.hid (S.out.below hB0)
      have hYl := Lib.hid (show c < wr.heap.size ∧ c2 < wr.heap.size from ⟨S.out.t.a.s.lt.2, S.out.t.b.s.lt.2⟩)
      have hsz := Lib.hid (show X.length ≤ 10000000 ∧ Y.length ≤ 10000000 by have := hXY.out; omega)
      replace hlt := Lib.hid hlt
      obtain ⟨Ax, cx, rfl, _⟩ := S.out.x.slice
      obtain ⟨Ay, cy, rfl, _⟩ := S.out.y.slice
      clear hc hc2 hc3 hbl hbl2 hbl3 hs hn htk hB0 S
      cases tk with
      | true =>
        by_cases hok : X.length < cap
        · have hd : decide ((X.map tgV).length < cap) = true := by simp; omega
          replace hok := Lib.hid hok
          go_wp2_with fail
          generalize wr.alloc (.cells #[.string s, .int .u64 n] 30) = wz at *
          generalize wr.heap.size = Yb at *
          refine (post_thing S1.out.t.a.s s n).mono ?_
          rintro e w5 ⟨rfl, K, F⟩
          rw [if_pos (by simpa using hok.out)] at K
          have S2 := Lib.hid (S1.out.opA (P := X ++ [(s, n)]) (by simpa [tgV] using K) F)
          have v0 := (y0.out.frb F (by have := hYl.out; omega)).1; have v1 := (y1.out.frb F (by have := hYl.out; omega)).1
          rw [hd]
          have Q2 := Lib.hid (rowAt_new1 (E := tgE) (B := w5.heap.size) w5 #[.string s, .int .u64 n] 30 (s, n) rfl rfl)
          have hBa := Below.alloc (Below.refl w5.heap.size w5) (Nat.le_refl _) (.cells #[.string s, .int .u64 n] 30)
          have S3 := Lib.hid (S2.out.below hBa)
          clear K F S1 hd y0 y1 hz0 hz1 hz2 hz3 hz4 hBa
          go_wp2_with (first | (at_builtin; refine append_rowE (E := tgE) (ys := [(s, n)]) rfl rfl Try.underlying31 rfl (S2.out.x.alloc _) rfl Q2.out rfl hsz.out.1 (by simp) S3.out.e.2.2.2 ?_) | fail)
          intro v' w6 P1 P2 P3 P4
          have S4 := Lib.hid (S3.out.growX P1 P3 (by simpa using P4)).s
          clear P1 P2 P3 P4 S2 S3 Q2 v0 v1
          go_wp2
          go_roundw
          case rel => exact ⟨i + 1, X ++ [(s, n)], Y, by go_num, S4, Lib.hid (by have := hXY.out; simp; omega), Lib.hid (by have := hlt.out; omega)⟩
          case measure => have := hlt.out; simp [intOf]; omega
        · have hd : decide ((X.map tgV).length < cap) = false := by simp; omega
          replace hok := Lib.hid hok
          go_wp2_with fail
          generalize wr.alloc (.cells #[.string s, .int .u64 n] 30) = wz at *
          generalize wr.heap.size = Yb at *
          refine (post_thing S1.out.t.a.s s n).mono ?_
          rintro e w5 ⟨rfl, K, F⟩
          rw [if_neg (by simpa using hok.out)] at K
          have S2 := Lib.hid (S1.out.opA (P := X) K F).s
          rw [hd]
          clear K F S1 hd y0 y1 hz0 hz1 hz2 hz3 hz4
          go_wp2
          go_roundw
          case rel => exact ⟨i + 1, X, Y, by go_num, S2, Lib.hid (by have := hXY.out; omega), Lib.hid (by have := hlt.out; omega)⟩
          case measure => have := hlt.out; simp [intOf]; omega
      | false =>
        by_cases hok : Y.length < cap
        · have hd : decide ((Y.map tgV).length < cap) = true := by simp; omega
          replace hok := Lib.hid hok
          go_wp2_with fail
          generalize wr.alloc (.cells #[.string s, .int .u64 n] 30) = wz at *
          generalize wr.heap.size = Yb at *
          refine (post_thing S1.out.t.b.s s n).mono ?_
          rintro e w5 ⟨rfl, K, F⟩
          rw [if_pos (by simpa using hok.out)] at K
          have S2 := Lib.hid (S1.out.opB (P := Y ++ [(s, n)]) (by simpa [tgV] using K) F)
          have v0 := (y0.out.frb F (by have := hYl.out; omega)).1; have v1 := (y1.out.frb F (by have := hYl.out; omega)).1
          rw [hd]
          have Q2 := Lib.hid (rowAt_new1 (E := tgE) (B := w5.heap.size) w5 #[.string s, .int .u64 n] 30 (s, n) rfl rfl)
          have hBa := Below.alloc (Below.refl w5.heap.size w5) (Nat.le_refl _) (.cells #[.string s, .int .u64 n] 30)
          have S3 := Lib.hid (S2.out.below hBa)
          clear K F S1 hd y0 y1 hz0 hz1 hz2 hz3 hz4 hBa
          go_wp2_with (first | (at_builtin; refine append_rowE (E := tgE) (ys := [(s, n)]) rfl rfl Try.underlying31 rfl (S2.out.y.alloc _) rfl Q2.out rfl hsz.out.2 (by simp) S3.out.e.2.2.2 ?_) | fail)
          intro v' w6 P1 P2 P3 P4
          have S4 := Lib.hid (S3.out.growY P1 P3 (by simpa using P4)).s
          clear P1 P2 P3 P4 S2 S3 Q2 v0 v1
          go_wp2
          go_roundw
          case rel => exact ⟨i + 1, X, Y ++ [(s, n)], by go_num, S4, Lib.hid (by have := hXY.out; simp; omega), Lib.hid (by have := hlt.out; omega)⟩
          case measure => have := hlt.out; simp [intOf]; omega
        · have hd : decide ((Y.map tgV).length < cap) = false := by simp; omega
          replace hok := Lib.hid hok
          go_wp2_with fail
          generalize wr.alloc (.cells #[.string s, .int .u64 n] 30) = wz at *
          generalize wr.heap.size = Yb at *
          refine (post_thing S1.out.t.b.s s n).mono ?_
          rintro e w5 ⟨rfl, K, F⟩
          rw [if_neg (by simpa using hok.out)] at K
          have S2 := Lib.hid (S1.out.opB (P := Y) K F).s
          rw [hd]
          clear K F S1 hd y0 y1 hz0 hz1 hz2 hz3 hz4
          go_wp2
          go_roundw
          case rel => exact ⟨i + 1, X, Y, by go_num, S2, Lib.hid (by have := hXY.out; omega), Lib.hid (by have := hlt.out; omega)⟩
          case measure => have := hlt.out; simp [intOf]; omega
    · obtain ⟨Ax, cx, rfl, _⟩ := S.out.x.slice
      obtain ⟨Ay, cy, rfl, _⟩ := S.out.y.slice
      have hge : ¬ ((i : Int) < (xs.length : Int)) := by omega
      have hsz := Lib.hid (show X.length ≤ 40 ∧ Y.length ≤ 40 by have := hXY.out; have := hi.out; have := hbig.out; omega)
      replace hlt := Lib.hid hlt
      go_wp2_with (first | (at_builtin; refine append_rowE (E := tgE) rfl rfl Try.underlying31 rfl S.out.x rfl (S.out.y.row).1 rfl (by have := hsz.out; omega) (by have := hsz.out; omega) S.out.e.2.2.2 ?_) | fail)
      intro vz w4 P1 P2 P3 P4
      have T4 := Lib.hid (S.out.t.grow P3 (fun k hk => (S.out.x.lt k hk).1) S.out.e)
      have hE := Lib.hid (show ((B < E ∧ c < E) ∧ (B2 < E ∧ c2 < E)) ∧ E ≤ w4.heap.size by have := S.out.e; have := (FrB.grown P3).size; omega)
      have Z4 := Lib.hid P1
      obtain ⟨Az, cz, rfl, _⟩ := Z4.out.slice
      clear P1 P2 P3 P4 S
      obtain ⟨Z, hZ⟩ : ∃ Z, Z = X ++ Y := ⟨_, rfl⟩
      rw [← hZ] at Z4 ⊢
      have hlZ : Z.length = X.length + Y.length := by rw [hZ]; simp
      have hlZ80 : Z.length ≤ 80 := by have := hsz.out; omega
      have hlX40 : X.length ≤ 40 := hsz.out.1
      replace hZ := Lib.hid hZ; replace hlZ := Lib.hid hlZ
      go_wp2
      go_loopw [85] (fun ii wr => ∃ j : Nat, ii = .int .i64 j ∧ Hid (TwoB w wr B c cap ((X.drop j).map tgV) B2 c2 cap ((Y.drop (j - X.length)).map tgV)) ∧ Hid (OwnE tgE wr E (.slice Az Z.length cz) Z) ∧ Hid (E ≤ wr.heap.size) ∧ Hid (j ≤ Z.length)) (fun ii _ => Z.length - (intOf ii).toNat)
      case atStart => exact ⟨0, rfl, Lib.hid (by simpa using T4.out), Z4, Lib.hid hE.out.2, Lib.hid (Nat.zero_le _)⟩
      case round =>
        clear T4 Z4
        obtain ⟨j, rfl, S, O, hEw, hj⟩ := hrel
        by_cases hjl : j < Z.length
        · have hj80 : j < 80 := by omega
          obtain ⟨g, cg, e0, hg1, hg2, -⟩ := O.out.pos (by omega)
          injection e0 with e1 e2 e3
          subst e1; subst e3
          obtain ⟨C0, C1⟩ := O.out.atG hjl
          obtain ⟨zz, hzz⟩ : ∃ zz, zz = Z[j] := ⟨_, rfl⟩
          rw [← hzz] at C0 C1
          have z0 := C0.1; have z1 := C1.1
          have hB0 := Below.alloc (Below.refl wr.heap.size wr) (Nat.le_refl _) (.cells #[.string zz.1, .int .u64 zz.2] 30)
          have S1 := Lib.hid (S.out.below hB0)
          have O1 := Lib.hid (O.out.below hB0)
          have y0 := Lib.hid (Cel.new wr #[.string zz.1, .int .u64 zz.2] 30 0 _ rfl)
          have y1 := Lib.hid (Cel.new wr #[.string zz.1, .int .u64 zz.2] 30 1 _ rfl)
          have hYl := Lib.hid (show (c < wr.heap.size ∧ c2 < wr.heap.size) ∧ E ≤ (wr.alloc (.cells #[.string zz.1, .int .u64 zz.2] 30)).heap.size from ⟨⟨S.out.a.s.lt.2, S.out.b.s.lt.2⟩, Nat.le_trans hEw.out hB0.size⟩)
          have heq := eqTgT zz.1 zz.2
          by_cases hjX : j < X.length
          · have hz9 : zz = X[j] := by
              have e : Z[j]? = some zz := by rw [hzz]; exact List.getElem?_eq_getElem hjl
              rw [hZ.out, List.getElem?_append_left hjX, List.getElem?_eq_getElem hjX] at e
              injection e with e; exact e.symm
            have hdr : X.drop j = zz :: X.drop (j + 1) := by rw [hz9]; exact List.drop_eq_getElem_cons hjX
            have hj0 : j - X.length = 0 := by omega
            have hj1 : j + 1 - X.length = 0 := by omega
            have d1 : decide ((j : Int) < (X.length : Int)) = true := by simp; omega
            have d2 : decide (j < X.length) = true := by simp; omega
            have S2 := S1.out
            rw [hdr, hj0, List.map_cons] at S2
            replace S2 := Lib.hid S2
            replace hz9 := Lib.hid hz9; replace hdr := Lib.hid hdr; replace hzz := Lib.hid hzz; replace hj0 := Lib.hid hj0; replace hj1 := Lib.hid hj1; replace hjX := Lib.hid hjX; replace hjl := Lib.hid hjl
            clear S O S1 hB0 C0 C1
            go_wp2_with fail
            generalize wr.alloc (.cells #[.string zz.1, .int .u64 zz.2] 30) = wz at *
            generalize wr.heap.size = Yb at *
            refine (either_a_thing (y1 := zz.1) (y2 := zz.2) S2.out.a.s _).mono ?_
            rintro e w5 ⟨rfl, K, F⟩
            have S3 := S2.out.opA K F
            have u0 := y0.out.frb F (by have := hYl.out; omega)
            have u1 := y1.out.frb F (by have := hYl.out; omega)
            have hB5 := Below.alloc (Below.refl w5.heap.size w5) (Nat.le_refl _) (.cells #[.string zz.1, .int .u64 zz.2] 30)
            have S4 := Lib.hid (S3.below hB5)
            have O4 := Lib.hid ((O1.out.frb F (fun k hk e => by have := (O1.out.lt k hk).1; have := hE.out; omega)).below hB5)
            have hE4 := Lib.hid (show E ≤ (w5.alloc (.cells #[.string zz.1, .int .u64 zz.2] 30)).heap.size from Nat.le_trans (Nat.le_trans hYl.out.2 F.size) hB5.size)
            have x0 := (u0.frb (FrB.of_below (S := fun _ => False) hB5 (Nat.le_refl _)) (fun h => h)).1
            have x1 := (u1.frb (FrB.of_below (S := fun _ => False) hB5 (Nat.le_refl _)) (fun h => h)).1
            have v0 := (Cel.new w5 #[.string zz.1, .int .u64 zz.2] 30 0 _ rfl).1
            have v1 := (Cel.new w5 #[.string zz.1, .int .u64 zz.2] 30 1 _ rfl).1
            clear K F S2 S3 hB5 y0 y1 z0 z1 O1 u0 u1
            go_wp2
            go_roundw
            case rel => exact ⟨j + 1, by go_num, Lib.hid (by rw [hj1.out]; exact S4.out), O4, hE4, Lib.hid (by have := hjl.out; omega)⟩
            case measure => have := hjl.out; simp [intOf]; omega
          · have hz9 : j - X.length < Y.length := by have := hlZ.out; omega
            have hdr : Y.drop (j - X.length) = zz :: Y.drop (j + 1 - X.length) := by
              have e : Z[j]? = some zz := by rw [hzz]; exact List.getElem?_eq_getElem hjl
              rw [hZ.out, List.getElem?_append_right (by omega), List.getElem?_eq_getElem hz9] at e
              injection e with e
              rw [← e, show j + 1 - X.length = (j - X.length) + 1 by omega]; exact List.drop_eq_getElem_cons hz9
            have hj0 : X.drop j = [] := List.drop_eq_nil_of_le (by omega)
            have hj1 : X.drop (j + 1) = [] := List.drop_eq_nil_of_le (by omega)
            have d1 : decide ((j : Int) < (X.length : Int)) = false := by simp; omega
            have d2 : decide (j < X.length) = false := by simp; omega
            have S2 := S1.out
            rw [hdr, hj0, List.map_cons] at S2
            replace S2 := Lib.hid S2
            replace hz9 := Lib.hid hz9; replace hdr := Lib.hid hdr; replace hzz := Lib.hid hzz; replace hj0 := Lib.hid hj0; replace hj1 := Lib.hid hj1; replace hjX := Lib.hid hjX; replace hjl := Lib.hid hjl
            clear S O S1 hB0 C0 C1
            go_wp2_with fail
            generalize wr.alloc (.cells #[.string zz.1, .int .u64 zz.2] 30) = wz at *
            generalize wr.heap.size = Yb at *
            refine (either_b_thing (y1 := zz.1) (y2 := zz.2) S2.out.a.s S2.out.b.s).mono ?_
            rintro e w5 ⟨rfl, K, F⟩
            have S3 := S2.out.opB K F
            have u0 := y0.out.frb F (by have := hYl.out; omega)
            have u1 := y1.out.frb F (by have := hYl.out; omega)
            have hB5 := Below.alloc (Below.refl w5.heap.size w5) (Nat.le_refl _) (.cells #[.string zz.1, .int .u64 zz.2] 30)
            have S4 := Lib.hid (S3.below hB5)
            have O4 := Lib.hid ((O1.out.frb F (fun k hk e => by have := (O1.out.lt k hk).1; have := hE.out; omega)).below hB5)
            have hE4 := Lib.hid (show E ≤ (w5.alloc (.cells #[.string zz.1, .int .u64 zz.2] 30)).heap.size from Nat.le_trans (Nat.le_trans hYl.out.2 F.size) hB5.size)
            have x0 := (u0.frb (FrB.of_below (S := fun _ => False) hB5 (Nat.le_refl _)) (fun h => h)).1
            have x1 := (u1.frb (FrB.of_below (S := fun _ => False) hB5 (Nat.le_refl _)) (fun h => h)).1
            have v0 := (Cel.new w5 #[.string zz.1, .int .u64 zz.2] 30 0 _ rfl).1
            have v1 := (Cel.new w5 #[.string zz.1, .int .u64 zz.2] 30 1 _ rfl).1
            clear K F S2 S3 hB5 y0 y1 z0 z1 O1 u0 u1
            go_wp2
            go_roundw
            case rel => exact ⟨j + 1, by go_num, Lib.hid (by rw [hj1.out]; exact S4.out), O4, hE4, Lib.hid (by have := hjl.out; omega)⟩
            case measure => have := hjl.out; simp [intOf]; omega
        · obtain rfl : j = Z.length := by have := hj.out; omega
          have hdX : X.drop Z.length = [] := List.drop_eq_nil_of_le (by have := hlZ.out; omega)
          have hdY : Y.drop (Z.length - X.length) = [] := List.drop_eq_nil_of_le (by have := hlZ.out; omega)
          rw [hdX, hdY] at S
          have heq := eqTgT ⟨#[]⟩ 0
          clear hdX hdY O
          go_wp2_with fail
          refine (either_n_thing S.out.a.s S.out.b.s).mono ?_
          rintro e w5 ⟨rfl, F⟩
          have hB5 := Below.alloc (Below.refl w5.heap.size w5) (Nat.le_refl _) (.cells #[.string ⟨#[]⟩, .int .u64 0] 30)
          have S3 := Lib.hid ((S.out.below F).below hB5)
          have v0 := (Cel.new w5 #[.string ⟨#[]⟩, .int .u64 0] 30 0 _ rfl).1
          have v1 := (Cel.new w5 #[.string ⟨#[]⟩, .int .u64 0] 30 1 _ rfl).1
          clear F S hB5
          go_wp2_with fail
          generalize w5.alloc (.cells #[.string ⟨#[]⟩, .int .u64 0] 30) = w6 at *
          refine (len_thing S3.out.a.s).mono ?_
          rintro e w7 ⟨rfl, rfl⟩
          rw [List.map_nil, List.length_nil]
          go_wp2_with fail
          refine (len_thing S3.out.b.s).mono ?_
          rintro e w7 ⟨rfl, rfl⟩
          rw [List.map_nil, List.length_nil]
          go_wp2
          go_ret
          exact ⟨rfl, S3.out.a.b⟩
end Go.Proofs.Ytkpiphihmmhhpaa
