/- Regions of caps.Row: what is done with them. -/
import Derived.Test.YtaflekpfpdnbcaaDoorRegS
import Derived.Test.YtaflekpfpdnbcaaDoorSeq
namespace Go.Proofs.YtaflekpfpdnbcaaDoor
open Go.RowKit
set_option linter.unusedVariables false
set_option linter.unusedSimpArgs false
set_option linter.unusedSectionVars false
set_option maxRecDepth 100000

structure Rw where
  gen : Int
  kind : Int
  index : Int
  rights : Int
deriving Inhabited
def rwE : Enc Rw where
  t := 56
  sz := 4
  f := fun x => [.int .i64 x.gen, .int .i64 x.kind, .int .i64 x.index, .int .i64 x.rights]
  z := .agg #[.int .i64 0, .int .i64 0, .int .i64 0, .int .i64 0]
  bytes := 32
  len := fun x => rfl
  one := fun x v h => by
    simp only [List.mem_cons, List.mem_nil_iff, or_false] at h
    rcases h with h | h | h | h <;> (subst h; rfl)
  info := by kernel_rfl
  zs := rfl
  pos := by decide
  small := by decide
def Rw.zero : Rw := ⟨0, 0, 0, 0⟩
def Rw.val (v : Rw) : Value := .agg #[.int .i64 v.gen, .int .i64 v.kind, .int .i64 v.index, .int .i64 v.rights]
section
variable {w : World} {r b off n p g : Nat} {vs : List Rw} {X : List Bool}
theorem RegS.atR (h : RegS rwE w r b off n p g vs X) {j : Nat} (hj : j < vs.length) : Cel w b (off + j * 4) (.int .i64 vs[j].gen) ∧ Cel w b (off + j * 4 + 1) (.int .i64 vs[j].kind) ∧ Cel w b (off + j * 4 + 2) (.int .i64 vs[j].index) ∧ Cel w b (off + j * 4 + 3) (.int .i64 vs[j].rights) := ⟨h.cel j hj 0 _ rfl, h.cel j hj 1 _ rfl, h.cel j hj 2 _ rfl, h.cel j hj 3 _ rfl⟩
theorem RegS.setR {w1 w2 : World} (h : RegS rwE w1 r b off n p g vs X) {j : Nat} (hj : j < vs.length) (y : Rw) (e : w2 = ((((w1.setCell ⟨b, off + j * 4, none⟩ (.int .i64 y.gen)).setCell ⟨b, off + j * 4 + 1, none⟩ (.int .i64 y.kind)).setCell ⟨b, off + j * 4 + 2, none⟩ (.int .i64 y.index)).setCell ⟨b, off + j * 4 + 3, none⟩ (.int .i64 y.rights))) :
    RegS rwE w2 r b off n p g (vs.set j y) X ∧ FrC (regF rwE b off n p g) w1 w2 := by
  have := h.setE hj y
  rw [show w1.setCells b (off + j * rwE.sz) (rwE.f y) = w2 from e.symm] at this
  exact this

set_option maxHeartbeats 4000000 in
theorem take_R (h : RegS rwE w r b off n p g vs X) (hT : Tab w) (v : Rw) :
    Calls Tryd.prog 30 #[.pointer (some ⟨r, 0, none⟩), .agg #[.int .i64 v.gen, .int .i64 v.kind, .int .i64 v.index, .int .i64 v.rights]] w fun e w' => e = .returned (.tuple #[.int .i64 (nextV X false 0), .bool (nextO X false 0)]) ∧ RegS rwE w' r b off n p g (takeV vs X v) (takeX X) ∧ FrC (regF rwE b off n p g) w w' := by
  obtain ⟨x0, x1, x2, x3⟩ := v
  obtain ⟨A, hA, hA2⟩ := h.c0
  have B0 := (Below.refl w.heap.size w).alloc (Nat.le_refl _) (.cells #[.int .i64 x0, .int .i64 x1, .int .i64 x2, .int .i64 x3] 56)
  have hlt := h.lt
  have hne := h.ne
  have hbl : Hid (∀ j, j < n → b < w.heap.size) := Lib.hid (fun j hj => (h.cel j (by rw [h.lv]; exact hj) 0 _ rfl).lt)
  have a0 := (hA.alloc (.cells #[.int .i64 x0, .int .i64 x1, .int .i64 x2, .int .i64 x3] 56)).1
  have a1 := (h.c1.alloc (.cells #[.int .i64 x0, .int .i64 x1, .int .i64 x2, .int .i64 x3] 56)).1
  have z0 := Cel.new w #[.int .i64 x0, .int .i64 x1, .int .i64 x2, .int .i64 x3] 56 0 (.int .i64 x0) rfl
  have z1 := Cel.new w #[.int .i64 x0, .int .i64 x1, .int .i64 x2, .int .i64 x3] 56 1 (.int .i64 x1) rfl
  have z2 := Cel.new w #[.int .i64 x0, .int .i64 x1, .int .i64 x2, .int .i64 x3] 56 2 (.int .i64 x2) rfl
  have z3 := Cel.new w #[.int .i64 x0, .int .i64 x1, .int .i64 x2, .int .i64 x3] 56 3 (.int .i64 x3) rfl
  have hxl := h.set.lt.2.2.2
  have hxn := h.lx
  have H0 := Lib.hid (h.below B0)
  have F0 := Lib.hid (FrC.of_below (S := regF rwE b off n p g) B0 (Nat.le_refl _))
  replace hT := Lib.hid (hT.below B0)
  clear hA h B0
  go_enter Tryd.func30, Tryd.ntmps30
  go_wp2_with fail
  generalize w.alloc (.cells #[.int .i64 x0, .int .i64 x1, .int .i64 x2, .int .i64 x3] 56) = w0 at *
  generalize w.heap.size = Z at *
  refine (gap_s H0.out.set hT.out 0).mono ?_
  rintro e w1 ⟨rfl, m, rfl⟩
  have H1 := Lib.hid (H0.out.drewN m)
  have F1 := Lib.hid (F0.out.drewN m)
  clear F0 hT
  cases hn : nextB X false 0 with
  | none =>
    have e1 := nextO_none (X := X) (b := false) (k := 0) hn
    have hv := Lib.hid (show takeV vs X ⟨x0, x1, x2, x3⟩ = vs by unfold takeV; rw [hn])
    have hx := Lib.hid (show takeX X = X by unfold takeX; rw [hn])
    have E1 := Lib.hid e1
    rw [e1.1, e1.2]
    clear e1 hn
    go_wp2
    go_ret2
    exact ⟨by rw [E1.out.1, E1.out.2]; rfl, by rw [hv.out, hx.out]; exact H1.out, F1.out⟩
  | some j =>
    have e1 := nextO_some (X := X) (b := false) (k := 0) hn
    obtain ⟨hj, _, hjx, _⟩ := nextB_of hn
    have hv := Lib.hid (show takeV vs X ⟨x0, x1, x2, x3⟩ = vs.set j ⟨x0, x1, x2, x3⟩ by unfold takeV; rw [hn])
    have hx := Lib.hid (show takeX X = X.set j true by unfold takeX; rw [hn])
    have E1 := Lib.hid e1
    have hp := Lib.hid (put_at hj hjx)
    rw [e1.1, e1.2]
    have hjn : j < n := by rw [← hxn]; exact hj
    obtain rfl := hA2 (by omega)
    have hj4 : j < 4096 := by omega
    have hbZ := hbl.out j hjn
    have hZk : Hid (Z ≠ p ∧ Z ≠ g ∧ Z ≠ b) := Lib.hid ⟨by omega, by omega, by omega⟩
    replace hne := Lib.hid hne
    clear e1 hn hjx hA2 H0 hbZ hlt hbl
    have a1' : (w0.drewN m).cell? ⟨r, 1, none⟩ = some (.pointer (some ⟨p, 0, none⟩)) := a1
    clear a0 a1
    go_wp2_with fail
    refine (put_s H1.out.set j).mono ?_
    rintro e w2 ⟨rfl, K, F⟩
    rw [hp.out.2] at K
    have hZb : ¬ bitS p g Z := fun hh => hh.elim (fun e => hZk.out.1 e) (fun e => hZk.out.2.1 e)
    have y0 := (z0.drewN m).frb F hZb
    have y1 := (z1.drewN m).frb F hZb
    have y2 := (z2.drewN m).frb F hZb
    have y3 := (z3.drewN m).frb F hZb
    have H2 := Lib.hid (H1.out.turnX K F (by rw [List.length_set]))
    have F2 := Lib.hid (F1.out.then_ (FrB.reg (E := rwE) (b := b) (off := off) (n := n) F) (fun _ _ _ h => h))
    obtain ⟨A', hA', hA2'⟩ := H2.out.c0
    obtain rfl := hA2' (by omega)
    have d0 := hA'
    have hjv : j < vs.length := by rw [H2.out.lv]; exact hjn
    clear K F H1 F1 hA2' hA' a1' hZb z0 z1 z2 z3 hxl hxn hj
    go_wp2_with fail
    have hrk : r ≠ p ∧ r ≠ g ∧ r ≠ b := ⟨hne.out.1, hne.out.2.1, hne.out.2.2.1⟩
    replace hZk := hZk.out
    refine seq_start [(0, true), (1, true), (2, true), (3, true), (4, true), (5, true), (6, true), (7, false)] (fun w' => w'.cell? ⟨r, 0, none⟩ = some (.slice (some ⟨b, off, none⟩) n n) ∧ w'.cell? ⟨Z, 0, none⟩ = some (.int .i64 x0) ∧ w'.cell? ⟨Z, 1, none⟩ = some (.int .i64 x1) ∧ w'.cell? ⟨Z, 2, none⟩ = some (.int .i64 x2) ∧ w'.cell? ⟨Z, 3, none⟩ = some (.int .i64 x3)) (by kernel_rfl) (by kernel_rfl) rfl (by kernel_rfl) ⟨d0.1, y0.1, y1.1, y2.1, y3.1⟩ ?_
    iterate 7 (refine seq_read rfl (by first | rfl | (go_simp; done)) (fun w' hw => by obtain ⟨s0, s1, s2, s3, s4⟩ := hw; go_simp; with_reducible rfl) ?_; try simp only [Act.put, List.setIfInBounds_toArray, List.set_cons_zero, List.set_cons_succ])
    replace d0 := d0.drew; replace y0 := y0.drew; replace y1 := y1.drew; replace y2 := y2.drew; replace y3 := y3.drew
    replace H2 := Lib.hid H2.out.drew; replace F2 := Lib.hid F2.out.drewF
    generalize w2.drew = w3 at *
    obtain ⟨q0, q1, q2, q3⟩ := H2.out.atR hjv
    have u0 := q0.1; have v0 := q0.2; have u1 := q1.1; have v1 := q1.2; have u2 := q2.1; have v2 := q2.2; have u3 := q3.1; have v3 := q3.2
    refine seq_call rfl (fun K hK => ?_)
    go_simp
    obtain ⟨H4, F4⟩ := H2.out.setR hjv ⟨x0, x1, x2, x3⟩ rfl
    refine hK.out _ _ ⟨(F4.keep hrk d0).1, (F4.keep hZk y0).1, (F4.keep hZk y1).1, (F4.keep hZk y2).1, (F4.keep hZk y3).1⟩ ?_
    clear hK K
    try simp only [Act.put, List.setIfInBounds_toArray, List.set_cons_zero, List.set_cons_succ]
    refine seq_done ?_
    replace H4 := Lib.hid H4; replace F4 := Lib.hid (F2.out.then_ F4 (fun _ _ _ h => h))
    clear u0 v0 q0 u1 v1 q1 u2 v2 q2 u3 v3 q3
    clear hrk hZk d0 y0 y1 y2 y3 H2
    go_wp2
    go_ret2
    exact ⟨by rw [E1.out.1, E1.out.2]; rfl, by rw [hv.out, hx.out]; exact H4.out, F4.out⟩

set_option maxHeartbeats 4000000 in
theorem give_R (h : RegS rwE w r b off n p g vs X) (k : Int) :
    Calls Tryd.prog 33 #[.pointer (some ⟨r, 0, none⟩), .int .i64 k] w fun e w' => e = .returned (.bool (hasB X k)) ∧ RegS rwE w' r b off n p g (giveV Rw.zero vs X k) (dropL X k) ∧ FrC (regF rwE b off n p g) w w' := by
  have a1 := h.c1.1
  have hxl := h.set.lt.2.2.2
  have hxn := h.lx
  have hne := Lib.hid h.ne
  replace h := Lib.hid h
  go_enter Tryd.func33, Tryd.ntmps33
  go_wp2_with fail
  refine (drop_s h.out.set k).mono ?_
  rintro e w1 ⟨rfl, K, F⟩
  have H1 := Lib.hid (h.out.turnX K F (dropLen X k))
  have F1 := Lib.hid (FrB.reg (E := rwE) (b := b) (off := off) (n := n) F)
  clear K F a1 h
  cases hh : hasB X k with
  | false =>
    have hhd := Lib.hid hh
    have hv := Lib.hid (show giveV Rw.zero vs X k = vs by unfold giveV; rw [hh]; rfl)
    clear hh
    go_wp2
    go_ret
    exact ⟨by rw [hhd.out]; rfl, by rw [hv.out]; exact H1.out, F1.out⟩
  | true =>
    obtain ⟨j, rfl, hj⟩ := has_at hh
    have hhd := Lib.hid hh
    have hv := Lib.hid (show giveV Rw.zero vs X (j : Int) = vs.set j Rw.zero by unfold giveV; rw [hh]; rfl)
    have hjn : j < n := by rw [← hxn]; exact hj
    have hj4 : j < 4096 := by omega
    obtain ⟨Z, hZ⟩ : ∃ Z, Z = w1.heap.size := ⟨_, rfl⟩
    have B0 := (Below.refl w1.heap.size w1).alloc (Nat.le_refl _) (.cells #[.int .i64 0, .int .i64 0, .int .i64 0, .int .i64 0] 56)
    have hZk : Hid (Z ≠ p ∧ Z ≠ g ∧ Z ≠ b) := Lib.hid (by
      have k1 := H1.out.lt; have k2 := (H1.out.cel j (by rw [H1.out.lv]; exact hjn) 0 _ rfl).lt
      exact ⟨by omega, by omega, by omega⟩)
    have y0 := Cel.new w1 #[.int .i64 0, .int .i64 0, .int .i64 0, .int .i64 0] 56 0 (.int .i64 0) rfl
    have y1 := Cel.new w1 #[.int .i64 0, .int .i64 0, .int .i64 0, .int .i64 0] 56 1 (.int .i64 0) rfl
    have y2 := Cel.new w1 #[.int .i64 0, .int .i64 0, .int .i64 0, .int .i64 0] 56 2 (.int .i64 0) rfl
    have y3 := Cel.new w1 #[.int .i64 0, .int .i64 0, .int .i64 0, .int .i64 0] 56 3 (.int .i64 0) rfl
    rw [← hZ] at y0 y1 y2 y3
    have H2 := Lib.hid (H1.out.below B0)
    have F2 := Lib.hid (F1.out.then_ (FrC.of_below (S := regF rwE b off n p g) B0 (Nat.le_refl _)) (fun _ _ _ h => h))
    replace hZ := Lib.hid hZ
    clear hh H1 F1 B0
    go_wp2_with fail
    rw [← hZ.out]
    generalize w1.alloc (.cells #[.int .i64 0, .int .i64 0, .int .i64 0, .int .i64 0] 56) = w2 at *
    obtain ⟨A', hA', hA2'⟩ := H2.out.c0
    obtain rfl := hA2' (by omega)
    have d0 := hA'
    have hjv : j < vs.length := by rw [H2.out.lv]; exact hjn
    clear hA2' hA' hxl hxn hj hZ
    have hrk : r ≠ p ∧ r ≠ g ∧ r ≠ b := ⟨hne.out.1, hne.out.2.1, hne.out.2.2.1⟩
    replace hZk := hZk.out
    refine seq_start [(0, true), (1, true), (2, true), (3, true), (4, true), (5, true), (6, true), (7, false)] (fun w' => w'.cell? ⟨r, 0, none⟩ = some (.slice (some ⟨b, off, none⟩) n n) ∧ w'.cell? ⟨Z, 0, none⟩ = some (.int .i64 0) ∧ w'.cell? ⟨Z, 1, none⟩ = some (.int .i64 0) ∧ w'.cell? ⟨Z, 2, none⟩ = some (.int .i64 0) ∧ w'.cell? ⟨Z, 3, none⟩ = some (.int .i64 0)) (by kernel_rfl) (by kernel_rfl) rfl (by kernel_rfl) ⟨d0.1, y0.1, y1.1, y2.1, y3.1⟩ ?_
    iterate 7 (refine seq_read rfl (by first | rfl | (go_simp; done)) (fun w' hw => by obtain ⟨s0, s1, s2, s3, s4⟩ := hw; go_simp; with_reducible rfl) ?_; try simp only [Act.put, List.setIfInBounds_toArray, List.set_cons_zero, List.set_cons_succ])
    replace d0 := d0.drew; replace y0 := y0.drew; replace y1 := y1.drew; replace y2 := y2.drew; replace y3 := y3.drew
    replace H2 := Lib.hid H2.out.drew; replace F2 := Lib.hid F2.out.drewF
    generalize w2.drew = w3 at *
    obtain ⟨q0, q1, q2, q3⟩ := H2.out.atR hjv
    have u0 := q0.1; have v0 := q0.2; have u1 := q1.1; have v1 := q1.2; have u2 := q2.1; have v2 := q2.2; have u3 := q3.1; have v3 := q3.2
    refine seq_call rfl (fun K hK => ?_)
    go_simp
    obtain ⟨H4, F4⟩ := H2.out.setR hjv ⟨0, 0, 0, 0⟩ rfl
    refine hK.out _ _ ⟨(F4.keep hrk d0).1, (F4.keep hZk y0).1, (F4.keep hZk y1).1, (F4.keep hZk y2).1, (F4.keep hZk y3).1⟩ ?_
    clear hK K
    try simp only [Act.put, List.setIfInBounds_toArray, List.set_cons_zero, List.set_cons_succ]
    refine seq_done ?_
    replace H4 := Lib.hid H4; replace F4 := Lib.hid (F2.out.then_ F4 (fun _ _ _ h => h))
    clear u0 v0 q0 u1 v1 q1 u2 v2 q2 u3 v3 q3
    clear hrk hZk d0 y0 y1 y2 y3 H2
    go_wp2
    go_ret
    exact ⟨by rw [hhd.out]; rfl, by rw [hv.out]; exact H4.out, F4.out⟩

set_option maxHeartbeats 4000000 in
theorem set_R (h : RegS rwE w r b off n p g vs X) (k : Int) (v : Rw) :
    Calls Tryd.prog 31 #[.pointer (some ⟨r, 0, none⟩), .int .i64 k, .agg #[.int .i64 v.gen, .int .i64 v.kind, .int .i64 v.index, .int .i64 v.rights]] w fun e w' => e = .returned (.bool (hasB X k)) ∧ RegS rwE w' r b off n p g (setV vs X k v) X ∧ FrC (regF rwE b off n p g) w w' := by
  obtain ⟨x0, x1, x2, x3⟩ := v
  have B0 := (Below.refl w.heap.size w).alloc (Nat.le_refl _) (.cells #[.int .i64 x0, .int .i64 x1, .int .i64 x2, .int .i64 x3] 56)
  have hlt := h.lt
  have hne := Lib.hid h.ne
  have hbl : Hid (∀ j, j < n → b < w.heap.size) := Lib.hid (fun j hj => (h.cel j (by rw [h.lv]; exact hj) 0 _ rfl).lt)
  have a1 := (h.c1.alloc (.cells #[.int .i64 x0, .int .i64 x1, .int .i64 x2, .int .i64 x3] 56)).1
  have z0 := Cel.new w #[.int .i64 x0, .int .i64 x1, .int .i64 x2, .int .i64 x3] 56 0 (.int .i64 x0) rfl
  have z1 := Cel.new w #[.int .i64 x0, .int .i64 x1, .int .i64 x2, .int .i64 x3] 56 1 (.int .i64 x1) rfl
  have z2 := Cel.new w #[.int .i64 x0, .int .i64 x1, .int .i64 x2, .int .i64 x3] 56 2 (.int .i64 x2) rfl
  have z3 := Cel.new w #[.int .i64 x0, .int .i64 x1, .int .i64 x2, .int .i64 x3] 56 3 (.int .i64 x3) rfl
  have hxl := h.set.lt.2.2.2
  have hxn := h.lx
  have H2 := Lib.hid (h.below B0)
  have F2 := Lib.hid (FrC.of_below (S := regF rwE b off n p g) B0 (Nat.le_refl _))
  clear h B0
  go_enter Tryd.func31, Tryd.ntmps31
  go_wp2_with fail
  generalize w.alloc (.cells #[.int .i64 x0, .int .i64 x1, .int .i64 x2, .int .i64 x3] 56) = w2 at *
  generalize w.heap.size = Z at *
  refine (has_s H2.out.set k).mono ?_
  rintro e w1 ⟨rfl, rfl⟩
  cases hh : hasB X k with
  | false =>
    have hhd := Lib.hid hh
    have hv := Lib.hid (show setV vs X k ⟨x0, x1, x2, x3⟩ = vs by unfold setV; rw [hh]; rfl)
    clear hh
    go_wp2
    go_ret
    exact ⟨by rw [hhd.out]; rfl, by rw [hv.out]; exact H2.out, F2.out⟩
  | true =>
    obtain ⟨j, rfl, hj⟩ := has_at hh
    have hhd := Lib.hid hh
    have hv := Lib.hid (show setV vs X (j : Int) ⟨x0, x1, x2, x3⟩ = vs.set j ⟨x0, x1, x2, x3⟩ by unfold setV; rw [hh]; rfl)
    have hjn : j < n := by rw [← hxn]; exact hj
    have hj4 : j < 4096 := by omega
    have hbZ := hbl.out j hjn
    have hZk : Hid (Z ≠ p ∧ Z ≠ g ∧ Z ≠ b) := Lib.hid ⟨by omega, by omega, by omega⟩
    obtain ⟨A', hA', hA2'⟩ := H2.out.c0
    obtain rfl := hA2' (by omega)
    have d0 := hA'
    have hjv : j < vs.length := by rw [H2.out.lv]; exact hjn
    clear hh hA2' hA' hxl hxn hj a1 hbZ hbl hlt
    go_wp2_with fail
    have hrk : r ≠ p ∧ r ≠ g ∧ r ≠ b := ⟨hne.out.1, hne.out.2.1, hne.out.2.2.1⟩
    replace hZk := hZk.out
    have y0 := z0; have y1 := z1; have y2 := z2; have y3 := z3
    refine seq_start [(0, true), (1, true), (2, true), (3, true), (4, true), (5, true), (6, true), (7, false)] (fun w' => w'.cell? ⟨r, 0, none⟩ = some (.slice (some ⟨b, off, none⟩) n n) ∧ w'.cell? ⟨Z, 0, none⟩ = some (.int .i64 x0) ∧ w'.cell? ⟨Z, 1, none⟩ = some (.int .i64 x1) ∧ w'.cell? ⟨Z, 2, none⟩ = some (.int .i64 x2) ∧ w'.cell? ⟨Z, 3, none⟩ = some (.int .i64 x3)) (by kernel_rfl) (by kernel_rfl) rfl (by kernel_rfl) ⟨d0.1, y0.1, y1.1, y2.1, y3.1⟩ ?_
    iterate 7 (refine seq_read rfl (by first | rfl | (go_simp; done)) (fun w' hw => by obtain ⟨s0, s1, s2, s3, s4⟩ := hw; go_simp; with_reducible rfl) ?_; try simp only [Act.put, List.setIfInBounds_toArray, List.set_cons_zero, List.set_cons_succ])
    replace d0 := d0.drew; replace y0 := y0.drew; replace y1 := y1.drew; replace y2 := y2.drew; replace y3 := y3.drew
    replace H2 := Lib.hid H2.out.drew; replace F2 := Lib.hid F2.out.drewF
    generalize w2.drew = w3 at *
    obtain ⟨q0, q1, q2, q3⟩ := H2.out.atR hjv
    have u0 := q0.1; have v0 := q0.2; have u1 := q1.1; have v1 := q1.2; have u2 := q2.1; have v2 := q2.2; have u3 := q3.1; have v3 := q3.2
    refine seq_call rfl (fun K hK => ?_)
    go_simp
    obtain ⟨H4, F4⟩ := H2.out.setR hjv ⟨x0, x1, x2, x3⟩ rfl
    refine hK.out _ _ ⟨(F4.keep hrk d0).1, (F4.keep hZk y0).1, (F4.keep hZk y1).1, (F4.keep hZk y2).1, (F4.keep hZk y3).1⟩ ?_
    clear hK K
    try simp only [Act.put, List.setIfInBounds_toArray, List.set_cons_zero, List.set_cons_succ]
    refine seq_done ?_
    replace H4 := Lib.hid H4; replace F4 := Lib.hid (F2.out.then_ F4 (fun _ _ _ h => h))
    clear u0 v0 q0 u1 v1 q1 u2 v2 q2 u3 v3 q3
    clear hrk hZk d0 y0 y1 y2 y3 H2
    go_wp2
    go_ret
    exact ⟨by rw [hhd.out]; rfl, by rw [hv.out]; exact H4.out, F4.out⟩

set_option maxHeartbeats 4000000 in
theorem at_R (h : RegS rwE w r b off n p g vs X) (k : Int) :
    Calls Tryd.prog 50 #[.pointer (some ⟨r, 0, none⟩), .int .i64 k] w fun e w' => e = .returned (.tuple #[Rw.val (atV Rw.zero vs X k), .bool (hasB X k)]) ∧ Below w.heap.size w w' := by
  have B1 := (Below.refl w.heap.size w).alloc (Nat.le_refl _) (.cells #[.int .i64 0, .int .i64 0, .int .i64 0, .int .i64 0] 56)
  have H1 := Lib.hid (h.below B1)
  have a1 := (h.c1.alloc (.cells #[.int .i64 0, .int .i64 0, .int .i64 0, .int .i64 0] 56)).1
  have z0 := Cel.new w #[.int .i64 0, .int .i64 0, .int .i64 0, .int .i64 0] 56 0 (.int .i64 0) rfl
  have z1 := Cel.new w #[.int .i64 0, .int .i64 0, .int .i64 0, .int .i64 0] 56 1 (.int .i64 0) rfl
  have z2 := Cel.new w #[.int .i64 0, .int .i64 0, .int .i64 0, .int .i64 0] 56 2 (.int .i64 0) rfl
  have z3 := Cel.new w #[.int .i64 0, .int .i64 0, .int .i64 0, .int .i64 0] 56 3 (.int .i64 0) rfl
  have hxl := h.set.lt.2.2.2
  have hxn := h.lx
  have hZl : w.heap.size < (w.alloc (.cells #[.int .i64 0, .int .i64 0, .int .i64 0, .int .i64 0] 56)).heap.size := by simp
  have B2 := Lib.hid B1
  clear h B1
  go_enter Tryd.func50, Tryd.ntmps50
  go_wp2_with fail
  generalize w.alloc (.cells #[.int .i64 0, .int .i64 0, .int .i64 0, .int .i64 0] 56) = w1 at *
  refine (has_s H1.out.set k).mono ?_
  rintro e w2 ⟨rfl, rfl⟩
  cases hh : hasB X k with
  | false =>
    have hhd := Lib.hid hh
    have hv := Lib.hid (show atV Rw.zero vs X k = Rw.zero by unfold atV; rw [hh]; rfl)
    have hz1 : w1.heap.size ≠ w.heap.size := by omega
    have o0a := z0.1; have o0b := z0.2
    replace z0 := z0.alloc (.cells #[.int .i64 0, .int .i64 0, .int .i64 0, .int .i64 0] 56)
    have t0 := Cel.new w1 #[.int .i64 0, .int .i64 0, .int .i64 0, .int .i64 0] 56 0 (.int .i64 0) rfl
    have t0a := t0.1; have z0a := z0.1; have z0b := z0.2
    have o1a := z1.1; have o1b := z1.2
    replace z1 := z1.alloc (.cells #[.int .i64 0, .int .i64 0, .int .i64 0, .int .i64 0] 56)
    have t1 := Cel.new w1 #[.int .i64 0, .int .i64 0, .int .i64 0, .int .i64 0] 56 1 (.int .i64 0) rfl
    have t1a := t1.1; have z1a := z1.1; have z1b := z1.2
    have o2a := z2.1; have o2b := z2.2
    replace z2 := z2.alloc (.cells #[.int .i64 0, .int .i64 0, .int .i64 0, .int .i64 0] 56)
    have t2 := Cel.new w1 #[.int .i64 0, .int .i64 0, .int .i64 0, .int .i64 0] 56 2 (.int .i64 0) rfl
    have t2a := t2.1; have z2a := z2.1; have z2b := z2.2
    have o3a := z3.1; have o3b := z3.2
    replace z3 := z3.alloc (.cells #[.int .i64 0, .int .i64 0, .int .i64 0, .int .i64 0] 56)
    have t3 := Cel.new w1 #[.int .i64 0, .int .i64 0, .int .i64 0, .int .i64 0] 56 3 (.int .i64 0) rfl
    have t3a := t3.1; have z3a := z3.1; have z3b := z3.2
    clear hh H1 a1
    go_wp2
    refine bodyPost_ret (v := .tuple #[.agg #[.int .i64 0, .int .i64 0, .int .i64 0, .int .i64 0], .bool false]) ?hres1 rfl ?hend1
    case hend1 => exact ⟨by rw [hv.out, hhd.out]; rfl, (Below.alloc ((((B2.out.setCell (p := ⟨w.heap.size, 0, none⟩) (Nat.le_refl _) _).setCell (p := ⟨w.heap.size, 1, none⟩) (Nat.le_refl _) _).setCell (p := ⟨w.heap.size, 2, none⟩) (Nat.le_refl _) _).setCell (p := ⟨w.heap.size, 3, none⟩) (Nat.le_refl _) _) (by simp; omega) _)⟩
    case hres1 => simp [results, Tryd.results50, go_sem, *]
  | true =>
    obtain ⟨j, rfl, hj⟩ := has_at hh
    have hhd := Lib.hid hh
    have hjn : j < n := by rw [← hxn]; exact hj
    have hjv : j < vs.length := by rw [H1.out.lv]; exact hjn
    have hv := Lib.hid (show atV Rw.zero vs X (j : Int) = vs[j] by unfold atV; rw [hh]; simp [hjv])
    have hj4 : j < 4096 := by omega
    obtain ⟨A', hA', hA2'⟩ := H1.out.c0
    obtain rfl := hA2' (by omega)
    have d0 := hA'.1
    obtain ⟨q0, q1, q2, q3⟩ := H1.out.atR hjv
    have u0 := q0.1; have u1 := q1.1; have u2 := q2.1; have u3 := q3.1
    have z0a := z0.1; have z0b := z0.2; have z1a := z1.1; have z1b := z1.2; have z2a := z2.1; have z2b := z2.2; have z3a := z3.1; have z3b := z3.2
    have hjI : (j : Int) < (n : Int) := by omega
    clear hh hA2' hA' hxl hxn hj q0 q1 q2 q3 z0 z1 z2 z3
    go_wp2
    refine bodyPost_ret (v := .tuple #[.agg #[.int .i64 vs[j].gen, .int .i64 vs[j].kind, .int .i64 vs[j].index, .int .i64 vs[j].rights], .bool true]) ?hres2 rfl ?hend2
    case hend2 => exact ⟨by rw [hv.out, hhd.out]; rfl, ((((B2.out.setCell (p := ⟨w.heap.size, 0, none⟩) (Nat.le_refl _) _).setCell (p := ⟨w.heap.size, 1, none⟩) (Nat.le_refl _) _).setCell (p := ⟨w.heap.size, 2, none⟩) (Nat.le_refl _) _).setCell (p := ⟨w.heap.size, 3, none⟩) (Nat.le_refl _) _)⟩
    case hres2 => simp [results, Tryd.results50, go_sem, *]

theorem count_R (h : RegS rwE w r b off n p g vs X) :
    Calls Tryd.prog 34 #[.pointer (some ⟨r, 0, none⟩)] w fun e w' => e = .returned (.int .i64 (X.count true)) ∧ w = w' := by
  have a1 := h.c1.1
  replace h := Lib.hid h
  go_enter Tryd.func34, Tryd.ntmps34
  go_wp2_with fail
  refine (count_s h.out.set).mono ?_
  rintro e w1 ⟨rfl, rfl⟩
  go_wp2
  go_ret
  exact ⟨rfl, rfl⟩
theorem room_R (h : RegS rwE w r b off n p g vs X) :
    Calls Tryd.prog 38 #[.pointer (some ⟨r, 0, none⟩)] w fun e w' => e = .returned (.int .i64 n) ∧ w = w' := by
  obtain ⟨A, hA, hA2⟩ := h.c0
  have a0 := hA.1
  replace h := Lib.hid h
  clear hA hA2
  go_enter Tryd.func38, Tryd.ntmps38
  go_wp2
  go_ret
  exact ⟨rfl, rfl⟩
end
end Go.Proofs.YtaflekpfpdnbcaaDoor
