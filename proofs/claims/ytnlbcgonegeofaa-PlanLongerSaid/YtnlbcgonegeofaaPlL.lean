/- The contracts of package plan as the walks use them; the document's example. No condition. -/
import Derived.Test.YtnlbcgonegeofaaPlI
namespace Go.Proofs.Ytnlbcgonegeofaa
open Go.RowKit
set_option linter.unusedVariables false
set_option linter.unusedSimpArgs false
set_option maxRecDepth 100000

theorem of_ok {w : World} {c n : Nat} {A : Option Addr} {xs : List Sl} (hr : SlA w A xs) {tn : Int} (hn : n = xs.length) (ok : Ok xs tn) {C : Nat} (hC : C = cyc xs) :
    Calls Try.prog 10 #[.slice A n c, .int .i64 tn] w fun e w' => ∃ A' c', e = .returned (.tuple #[.agg #[.slice A' n c', .int .u64 C], .int .i64 0]) ∧ PlAt w' A' xs ∧ Below w.heap.size w w' := by
  subst hn; subst hC
  exact (of_c hr tn).mono fun e w' h => h.1 ok
theorem of_no {w : World} {c n : Nat} {A : Option Addr} {xs : List Sl} (hr : SlA w A xs) {tn : Int} (hn : n = xs.length) (ok : ¬ Ok xs tn) :
    Calls Try.prog 10 #[.slice A n c, .int .i64 tn] w fun e w' => e = .returned (.tuple #[.agg #[.slice none 0 0, .int .u64 0], .int .i64 1]) ∧ Below w.heap.size w w' := by
  subst hn
  exact (of_c hr tn).mono fun e w' h => h.2 ok
theorem cyc_C (w : World) {A : Option Addr} {n c : Nat} {C : Int} : Calls Try.prog 12 #[.agg #[.slice A n c, .int .u64 C]] w fun e w' => e = .returned (.int .u64 C) ∧ Below w.heap.size w w' := cycle_c w _ A n c C rfl
theorem at_C {w : World} {c n C t : Nat} {ti : Int} {A : Option Addr} {xs : List Sl} (g : Gd xs) (hn : n = xs.length) (hC : C = cyc xs) (hr : PlAt w A xs) (hti : ti = (t : Int)) (ht : t < U64) {o : Int} {b : Bool} (ho : atO xs t = o) (hb : atE xs t = b) :
    Calls Try.prog 13 #[.agg #[.slice A n c, .int .u64 C], .int .u64 ti] w fun e w' => e = .returned (.tuple #[.int .i64 o, .bool b]) ∧ Below w.heap.size w w' := by
  subst hn; subst hC; subst hti; subst ho; subst hb
  exact at_c g hr ht
theorem next_C {w : World} {c n C t : Nat} {ti : Int} {A : Option Addr} {xs : List Sl} (g : Gd xs) (hn : n = xs.length) (hC : C = cyc xs) (hr : PlAt w A xs) (who : Int) (hti : ti = (t : Int)) (ht : t < U64) {f e : Nat} {b : Bool} (hx : nxV xs who t = (f, e, b)) :
    Calls Try.prog 16 #[.agg #[.slice A n c, .int .u64 C], .int .i64 who, .int .u64 ti] w fun r w' => r = .returned (.tuple #[.int .u64 f, .int .u64 e, .bool b]) ∧ Below w.heap.size w w' := by
  subst hn; subst hti
  exact next_cC g hC hr who ht hx
theorem kth_C {w : World} {c n C t : Nat} {ti : Int} {A : Option Addr} {xs : List Sl} (g : Gd xs) (hn : n = xs.length) (hC : C = cyc xs) (hr : PlAt w A xs) (who : Int) (hti : ti = (t : Int)) (ht : t < U64) {k : Int} (hk : -9223372036854775808 ≤ k ∧ k < 9223372036854775808) {e : Nat} {b : Bool} (hx : kthV xs who t k = (e, b)) :
    Calls Try.prog 18 #[.agg #[.slice A n c, .int .u64 C], .int .i64 who, .int .u64 ti, .int .i64 k] w fun r w' => r = .returned (.tuple #[.int .u64 e, .bool b]) ∧ Below w.heap.size w w' := by
  subst hn; subst hC; subst hti
  have := kth_c (c := c) g hr who ht hk
  rw [hx] at this
  exact this

/-- A plan in its variable. -/
structure PVar (w : World) (B : Nat) (A : Option Addr) (n c C : Nat) (xs : List Sl) : Prop where
  c0 : w.cell? ⟨B, 0, none⟩ = some (.slice A n c)
  c1 : w.cell? ⟨B, 1, none⟩ = some (.int .u64 C)
  pl : PlAt w A xs
theorem PVar.bel {w w' : World} {B : Nat} {A : Option Addr} {n c C : Nat} {xs : List Sl} (h : PVar w B A n c C xs) (hb : Below w.heap.size w w') : PVar w' B A n c C xs :=
  ⟨(hb.cell (p := ⟨B, 0, none⟩) (World.block_lt_of_cell? w _ h.c0)).trans h.c0, (hb.cell (p := ⟨B, 1, none⟩) (World.block_lt_of_cell? w _ h.c1)).trans h.c1, h.pl.below hb⟩
theorem PVar.new {w : World} {A : Option Addr} {n c C : Nat} {xs : List Sl} (h : PlAt w A xs) : PVar (w.alloc (.cells #[.slice A n c, .int .u64 C] 27)) w.heap.size A n c C xs :=
  ⟨(Cel.new w #[.slice A n c, .int .u64 C] _ 0 _ rfl).1, (Cel.new w #[.slice A n c, .int .u64 C] _ 1 _ rfl).1, h.below (belA (Below.refl _ _) _)⟩

def xs0 : List Sl := [⟨0, 3⟩, ⟨1, 2⟩, ⟨0, 1⟩]
theorem ok0 : Ok xs0 2 := by
  refine ⟨by decide, by decide, by decide, by decide, fun i hi => ?_, fun t h1 h2 => ?_⟩
  · have hi' : i < 3 := hi
    obtain rfl | rfl | rfl : i = 0 ∨ i = 1 ∨ i = 2 := by omega
    all_goals simp [xs0]
  · obtain rfl | rfl : t = 0 ∨ t = 1 := by omega
    · exact ⟨0, by decide, rfl⟩
    · exact ⟨1, by decide, rfl⟩
theorem cyc0 : 6 = cyc xs0 := by decide
theorem at5 : atO xs0 5 = 1 ∧ atE xs0 5 = true := by
  have h := at_of ok0.gd (t := 5) (i := 1) (by decide) (by decide) (by decide) (by decide)
  exact ⟨h.1.trans rfl, h.2.trans (by decide)⟩
theorem at4 : atO xs0 4 = 1 ∧ atE xs0 4 = false := by
  have h := at_of ok0.gd (t := 4) (i := 1) (by decide) (by decide) (by decide) (by decide)
  exact ⟨h.1.trans rfl, h.2.trans (by decide)⟩
theorem isNx0 : IsNx xs0 0 4 5 := nx_this ok0.gd (t := 4) (j := 2) ⟨by decide, rfl⟩ (by decide) (fun i hi ho => by
  obtain rfl | rfl : i = 0 ∨ i = 1 := by omega
  · decide
  · (have := ho.2; simp [xs0] at this))
theorem next4 : nxV xs0 0 4 = (5, 6, true) := by
  rw [nxV_of ok0.gd isNx0, en_of ok0.gd (i := 2) (by decide) (by decide)]
  decide
theorem kth4 : kthV xs0 0 4 2 = (9, true) := by
  have ho : ∃ i, Own xs0 0 i := ⟨0, by decide, rfl⟩
  have h6 : St xs0 0 6 := ⟨0, ⟨by decide, rfl⟩, by decide⟩
  have hc : cnt xs0 0 6 = cnt xs0 0 4 + ((2 : Int).toNat - 1) := by
    rw [show (6 : Nat) = 5 + 1 from rfl, cnt_after isNx0.1, isNx0.2]; rfl
  refine kthV_yes ok0.gd (by decide) ho ?_ (by decide)
  rw [← hc, start_eq ok0.gd h6, en_of ok0.gd (i := 0) (by decide) (by decide)]
  decide
theorem rowAt_slots (w : World) : SlA (w.alloc (.cells #[.int .i64 0, .int .i64 3, .int .i64 1, .int .i64 2, .int .i64 0, .int .i64 1] 46)) (some ⟨w.heap.size, 0, none⟩) xs0 := by
  intro i hi
  refine ⟨w.heap.size, 0, rfl, by simp, fun j v hj => ?_⟩
  refine (Cel.new w _ _ _ _ ?_).1
  have hi' : i < 3 := hi
  obtain rfl | rfl | rfl : i = 0 ∨ i = 1 ∨ i = 2 := by omega
  all_goals
    rcases j with _ | _ | j
    · simpa [xs0, Sl.cells] using hj
    · simpa [xs0, Sl.cells] using hj
    · simp [xs0, Sl.cells] at hj

section
variable {w : World} {c : Nat} {A : Option Addr} (hr : PlAt w A xs0)
include hr
theorem al_at5 : Calls Try.prog 13 #[.agg #[.slice A 3 c, .int .u64 6], .int .u64 5] w fun e w' => e = .returned (.tuple #[.int .i64 1, .bool true]) ∧ Below w.heap.size w w' := at_C (t := 5) ok0.gd (n := 3) rfl (C := 6) cyc0 hr rfl (by decide) at5.1 at5.2
theorem al_at4 : Calls Try.prog 13 #[.agg #[.slice A 3 c, .int .u64 6], .int .u64 4] w fun e w' => e = .returned (.tuple #[.int .i64 1, .bool false]) ∧ Below w.heap.size w w' := at_C (t := 4) ok0.gd (n := 3) rfl (C := 6) cyc0 hr rfl (by decide) at4.1 at4.2
theorem al_next : Calls Try.prog 16 #[.agg #[.slice A 3 c, .int .u64 6], .int .i64 0, .int .u64 4] w fun e w' => e = .returned (.tuple #[.int .u64 5, .int .u64 6, .bool true]) ∧ Below w.heap.size w w' := next_C (t := 4) ok0.gd (n := 3) rfl (C := 6) cyc0 hr 0 rfl (by decide) next4
theorem al_kth : Calls Try.prog 18 #[.agg #[.slice A 3 c, .int .u64 6], .int .i64 0, .int .u64 4, .int .i64 2] w fun e w' => e = .returned (.tuple #[.int .u64 9, .bool true]) ∧ Below w.heap.size w w' := kth_C (t := 4) ok0.gd (n := 3) rfl (C := 6) cyc0 hr 0 rfl (by decide) (by decide) kth4
end

set_option maxHeartbeats 4000000 in
theorem alive09_c (w : World) : Calls Try.prog 9 #[] w fun e w' => e = .returned (.bool true) ∧ Below w.heap.size w w' := by
  have R0 := Lib.hid (rowAt_slots w)
  have B0 := Lib.hid (belA (Below.refl w.heap.size w) (.cells #[.int .i64 0, .int .i64 3, .int .i64 1, .int .i64 2, .int .i64 0, .int .i64 1] 46))
  go_enter Try.func9, Try.ntmps9
  go_upto_region 3 with (first | (go_at_call 10; with_reducible refine (of_ok (n := 3) R0.out rfl ok0 (C := 6) cyc0).mono ?_; rintro e w1 ⟨A1, c1, rfl, P1, F1⟩) | (go_at_call 10; with_reducible refine (of_out (n := 0) 1 (by omega)).mono ?_; rintro e w2 ⟨rfl, F2⟩) | fail)
  have PV := Lib.hid ((PVar.new (n := 3) (c := c1) (C := 6) P1).bel F2 |>.bel (belA (Below.refl _ _) (.cells #[.slice none 0 0, .int .u64 0] 27)))
  have HB := Lib.hid (belA (belT (belA (belT B0.out F1) (.cells #[.slice A1 3 c1, .int .u64 6] 27)) F2) (.cells #[.slice none 0 0, .int .u64 0] 27))
  clear F1 F2 P1 B0 R0
  generalize w2.alloc (.cells #[.slice none 0 0, .int .u64 0] 27) = W0 at *
  generalize w1.heap.size = B at *
  have z0 := PV.out.c0
  have z1 := PV.out.c1
  go_wp2_with (first | (go_at_call 13; with_reducible refine (al_at5 PV.out.pl).mono ?_; rintro e w4 ⟨rfl, F⟩; replace PV := Lib.hid (PV.out.bel F); have z0 := PV.out.c0; have z1 := PV.out.c1; replace HB := Lib.hid (belT HB.out F); clear F) | (go_at_call 13; with_reducible refine (al_at4 PV.out.pl).mono ?_; rintro e w4 ⟨rfl, F⟩; replace PV := Lib.hid (PV.out.bel F); have z0 := PV.out.c0; have z1 := PV.out.c1; replace HB := Lib.hid (belT HB.out F); clear F) | (go_at_call 16; with_reducible refine (al_next PV.out.pl).mono ?_; rintro e w4 ⟨rfl, F⟩; replace PV := Lib.hid (PV.out.bel F); have z0 := PV.out.c0; have z1 := PV.out.c1; replace HB := Lib.hid (belT HB.out F); clear F) | (go_at_call 18; with_reducible refine (al_kth PV.out.pl).mono ?_; rintro e w4 ⟨rfl, F⟩; replace PV := Lib.hid (PV.out.bel F); have z0 := PV.out.c0; have z1 := PV.out.c1; replace HB := Lib.hid (belT HB.out F); clear F) | (go_at_call 12; with_reducible refine (cyc_C _).mono ?_; rintro e w4 ⟨rfl, F⟩; replace PV := Lib.hid (PV.out.bel F); have z0 := PV.out.c0; have z1 := PV.out.c1; replace HB := Lib.hid (belT HB.out F); clear F) | fail)
  go_ret
  exact ⟨rfl, HB.out⟩
end Go.Proofs.Ytnlbcgonegeofaa
