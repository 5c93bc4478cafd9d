/- A table that was made since a world: what is done with it. -/
import Derived.Test.YtaflekpfpdnbcaaDoorNw5
import Derived.Test.YtaflekpfpdnbcaaDoorSlabN
namespace Go.Proofs.YtaflekpfpdnbcaaDoor
open Go.RowKit
set_option linter.unusedVariables false
set_option linter.unusedSimpArgs false
set_option linter.unusedSectionVars false
set_option maxRecDepth 100000

structure TabW (w wr : World) (T : TD) (P : List Pc) (most : Nat) : Prop where
  S : TabS wr T P most
  B : Below w.heap.size w wr
  T0 : Tab w
  lo : w.heap.size ≤ T.t ∧ w.heap.size ≤ T.b ∧ w.heap.size ≤ T.p ∧ w.heap.size ≤ T.g ∧ w.heap.size ≤ T.G
section
variable {w wr w' : World} {T : TD} {P P' : List Pc} {most : Nat}
theorem TabW.tab (h : TabW w wr T P most) : Tab wr := h.T0.below h.B
theorem TD.F_lo {B : Nat} (h : B ≤ T.t ∧ B ≤ T.b ∧ B ≤ T.p ∧ B ≤ T.g ∧ B ≤ T.G) : ∀ k o, k < B → ¬ T.F k o := by
  rintro k o hk (((e | e) | e) | (e | e))
  · omega
  · omega
  · have := e.1; omega
  · omega
  · omega
/-- A block that is none of a table's. -/
def TD.No (T : TD) (k : Nat) : Prop := k ≠ T.t ∧ k ≠ T.G ∧ k ≠ T.p ∧ k ≠ T.g ∧ k ≠ T.b
theorem TD.No.not {k : Nat} (h : T.No k) : ∀ o, ¬ T.F k o := by
  obtain ⟨h1, h2, h3, h4, h5⟩ := h
  rintro o (((e | e) | e) | (e | e))
  · exact h3 e
  · exact h4 e
  · exact h5 e.1
  · exact h1 e
  · exact h2 e
theorem FrC.keepT {k o : Nat} {v : Value} (F : FrC T.F wr w') (hk : T.No k) (c : Cel wr k o v) : Cel w' k o v := F.cel _ _ _ (hk.not o) c
theorem TabS.no (h : TabS wr T P most) {k : Nat} (hk : wr.heap.size ≤ k) : T.No k := by
  have h1 := h.R.lt; have h2 := h.gb; have h3 := h.c0.lt
  exact ⟨by omega, by omega, by omega, by omega, by omega⟩
theorem TabW.turn (h : TabW w wr T P most) (S : TabS w' T P' most) (F : FrC T.F wr w') : TabW w w' T P' most :=
  ⟨S, h.B.trans (F.below h.B.size (TD.F_lo h.lo)), h.T0, h.lo⟩
theorem TabW.below (h : TabW w wr T P most) (F : Below wr.heap.size wr w') : TabW w w' T P most := ⟨h.S.below F, h.B.trans (F.mono h.B.size), h.T0, h.lo⟩
theorem TabW.alloc (h : TabW w wr T P most) (o : Obj) : TabW w (wr.alloc o) T P most := h.below (blA (Below.refl _ _) o)
theorem TabW.drew (h : TabW w wr T P most) : TabW w wr.drew T P most := h.below ⟨rfl, rfl, rfl, Nat.le_refl _, fun _ _ => rfl⟩
theorem TabW.mint (h : TabW w wr T P most) (kind index rights : Int) :
    Calls Tryd.prog 11 #[.pointer (some ⟨T.t, 0, none⟩), .agg #[.int .i64 kind, .int .i64 index, .int .i64 rights]] wr fun e w' => e = .returned (mintA P most (rights % 256).toNat (nextB (xP most P) false 0)) ∧ TabW w w' T (mintP P kind index (rights % 256).toNat (nextB (xP most P) false 0)) most ∧ FrC T.F wr w' :=
  (mint_c h.S h.tab kind index rights).mono (fun e w' k => ⟨k.1, h.turn k.2.1 k.2.2, k.2.2⟩)
theorem TabW.look (h : TabW w wr T P most) {hd : Nat} (hh : hd < 18446744073709551616) :
    Calls Tryd.prog 13 #[.pointer (some ⟨T.t, 0, none⟩), .int .u64 hd] wr fun e w' => e = .returned (lookA P (findP P hd)) ∧ TabW w w' T P most ∧ FrC T.F wr w' :=
  (lookT_c h.S hd hh).mono (fun e w' k => ⟨k.1, h.below k.2, FrC.of_below k.2 (Nat.le_refl _)⟩)
theorem TabW.need (h : TabW w wr T P most) {hd : Nat} (hh : hd < 18446744073709551616) (kind rights : Int) :
    Calls Tryd.prog 19 #[.pointer (some ⟨T.t, 0, none⟩), .int .u64 hd, .int .i64 kind, .int .i64 rights] wr fun e w' => e = .returned (.tuple #[.int .i64 (needA P kind rights (findP P hd)).1, .int .i64 (needA P kind rights (findP P hd)).2]) ∧ TabW w w' T P most ∧ FrC T.F wr w' :=
  (need_c h.S hd hh kind rights).mono (fun e w' k => ⟨k.1, h.below k.2, FrC.of_below k.2 (Nat.le_refl _)⟩)
theorem TabW.revoke (h : TabW w wr T P most) {hd : Nat} (hh : hd < 18446744073709551616) :
    Calls Tryd.prog 12 #[.pointer (some ⟨T.t, 0, none⟩), .int .u64 hd] wr fun e w' => e = .returned (.int .i64 (revA (findP P hd))) ∧ TabW w w' T (revP P (findP P hd)) most ∧ FrC T.F wr w' :=
  (revoke_c h.S hd hh).mono (fun e w' k => ⟨k.1, h.turn k.2.1 k.2.2, k.2.2⟩)
theorem TabW.count (h : TabW w wr T P most) : Calls Tryd.prog 14 #[.pointer (some ⟨T.t, 0, none⟩)] wr fun e w' => e = .returned (.int .i64 (P.countP Pc.is)) ∧ TabW w w' T P most ∧ FrC T.F wr w' :=
  (count_c h.S).mono (fun e w' k => ⟨k.1, h.below k.2, FrC.of_below k.2 (Nat.le_refl _)⟩)
theorem TabW.dead (h : TabW w wr T P most) : Calls Tryd.prog 15 #[.pointer (some ⟨T.t, 0, none⟩)] wr fun e w' => e = .returned (.int .i64 (P.countP (Pc.dead most))) ∧ TabW w w' T P most ∧ FrC T.F wr w' :=
  (dead_c h.S).mono (fun e w' k => ⟨k.1, by rw [← k.2]; exact h, by rw [← k.2]; exact FrC.refl _ _⟩)
end
/-- A table in a region that was made since. -/
theorem newT_w {w wr : World} {r b off n p g : Nat} (R : RegS rwE wr r b off n p g (List.replicate n Rw.zero) (List.replicate n false)) (hn : n ≤ 256) (hb : b < wr.heap.size) (B : Below w.heap.size w wr) (hT : Tab w) (lo : w.heap.size ≤ b ∧ w.heap.size ≤ p ∧ w.heap.size ≤ g) (gens : Int) :
    Calls Tryd.prog 22 #[.pointer (some ⟨r, 0, none⟩), .int .i64 gens] wr fun e w' => ∃ T : TD, e = .returned (.pointer (some ⟨T.t, 0, none⟩)) ∧ TabW w w' T (List.replicate n Pc.new) (mostP gens) :=
  (newT_c R hn hb gens).mono (fun e w' k => by
    obtain ⟨T, e1, S, h1, h2, h3, h4, h5, h6, h7, h8, F⟩ := k
    have := B.size
    exact ⟨T, e1, S, B.trans (F.mono B.size), hT, by rw [h2, h5, h6]; exact ⟨by omega, lo.1, lo.2.1, lo.2.2, by omega⟩⟩)

theorem two_ds {ds : List RD} {a b : Nat} (h : ds.map RD.n = [a, b]) : ∃ d0 d1 : RD, ds = [d0, d1] ∧ d0.n = a ∧ d1.n = b := by
  match ds, h with
  | [d0, d1], h => exact ⟨d0, d1, rfl, by simpa using (List.cons.inj h).1, by simpa using (List.cons.inj (List.cons.inj h).2).1⟩
  | [], h => simp at h
  | [_], h => simp at h
  | _ :: _ :: _ :: _, h => simp at h
set_option maxHeartbeats 4000000 in
theorem table_c {w : World} (hT : Tab w) (room gens : Int) :
    Calls Tryd.prog 10 #[.int .i64 room, .int .i64 gens] w fun e w' => ∃ T : TD, e = .returned (.pointer (some ⟨T.t, 0, none⟩)) ∧ TabW w w' T (List.replicate (capR room) Pc.new) (mostP gens) := by
  have HT := Lib.hid hT
  clear hT
  go_enter Tryd.func10, Tryd.ntmps10
  go_wp2_with fail
  refine (new_R (cs := [3, room]) (cc := 2) (row_new w #[.int .i64 3, .int .i64 room] 3 [3, room] rfl) (by simp) (by simp)).mono ?_
  rintro e w2 ⟨s, b, ds, rfl, S, hds, F⟩
  have B0 := blA (Below.refl w.heap.size w) (.cells #[.int .i64 3, .int .i64 room] 3)
  have B2 := Lib.hid (B0.trans (F.mono B0.size))
  have B0s := Lib.hid B0.size
  replace hds : ds.map RD.n = [3, capR room] := hds
  obtain ⟨d0, d1, rfl, -, hd1⟩ := two_ds hds
  have SH := Lib.hid S
  clear F S hds B0
  go_wp2_with fail
  refine (region_R SH.out (k := 1) (by simp)).mono ?_
  rintro e w3 ⟨rfl, rfl⟩
  rw [show [d0, d1][1] = d1 from rfl]
  have R := SH.out.reg 1 d1 _ rfl rfl
  have ok := SH.out.ok d1 (by simp)
  have tp := SH.out.tp
  have sb := SH.out.sb
  replace R : RegS rwE w2 d1.r b d1.off d1.n d1.p d1.g (List.replicate d1.n Rw.zero) (List.replicate d1.n false) := R
  rw [hd1] at R
  have nt := newT_w (w := w) R (capR_le room) tp.2.1 B2.out HT.out (by have k1 := ok.p; have k2 := ok.g; have k3 := ok.base; have := B0s.out; exact ⟨by omega, by omega, by omega⟩) gens
  replace nt := Lib.hid nt
  clear R ok tp sb SH hd1
  go_wp2_with fail
  refine nt.out.mono ?_
  rintro e w4 ⟨T, rfl, H⟩
  replace H := Lib.hid H
  clear nt
  go_wp2
  go_ret
  exact ⟨T, rfl, H.out⟩
end Go.Proofs.YtaflekpfpdnbcaaDoor
