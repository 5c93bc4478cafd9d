/- Regions of numbers: what is done with them. -/
import Derived.Test.YtlkhpkdndmlnaaaDoorRegS
import Derived.Deep.RegionHeld3
namespace Go.Proofs.YtlkhpkdndmlnaaaDoor
open Go.RowKit
set_option linter.unusedVariables false
set_option linter.unusedSimpArgs false
set_option linter.unusedSectionVars false
set_option maxRecDepth 100000

def iE : Enc Int where
  t := 3
  sz := 1
  f := fun x => [.int .i64 x]
  z := .int .i64 0
  bytes := 8
  len := fun x => rfl
  one := fun x v h => by simp at h; subst h; rfl
  info := by kernel_rfl
  zs := rfl
  pos := by decide
  small := by decide
theorem RegS.atI {w : World} {r b off n p g i : Nat} {vs : List Int} {X : List Bool} (h : RegS iE w r b off n p g vs X) (hi : i < vs.length) : Cel w b (off + i) (.int .i64 vs[i]) := by
  have := h.cel i hi 0 _ rfl
  rwa [show off + i * iE.sz + 0 = off + i by show off + i * 1 + 0 = off + i; omega] at this
theorem RegS.setI {w : World} {r b off n p g i : Nat} {vs : List Int} {X : List Bool} (h : RegS iE w r b off n p g vs X) (y : Int) :
    RegS iE (w.setCell ⟨b, off + i, none⟩ (.int .i64 y)) r b off n p g (vs.set i y) X := by
  obtain ⟨A, hA, hA2⟩ := h.c0
  have F := FrC.set w b (off + i) (.int .i64 y)
  refine ⟨⟨A, F.cel _ _ _ (fun e => h.ne.2.2.1 e.1) hA, hA2⟩, F.cel _ _ _ (fun e => h.ne.2.2.1 e.1) h.c1, h.set.frc F (fun o e => h.ne.2.2.2.1 e.1.symm) (fun o e => h.ne.2.2.2.2 e.1.symm), fun k hk j u hj => ?_, by rw [List.length_set]; exact h.lv, h.lx, h.ne⟩
  have hk2 : k < vs.length := by rw [List.length_set] at hk; exact hk
  have hj0 : j = 0 := by
    have := (List.getElem?_eq_some_iff.1 hj).1
    rw [iE.len] at this
    exact Nat.lt_one_iff.1 this
  subst hj0
  rw [show off + k * iE.sz + 0 = off + k by show off + k * 1 + 0 = off + k; omega]
  by_cases hki : k = i
  · subst hki
    rw [List.getElem_set_self] at hj
    have hu : u = .int .i64 y := by injection hj with hj; exact hj.symm
    rw [hu]
    exact (h.atI hk2).same _
  · rw [List.getElem_set_ne (fun e => hki e.symm)] at hj
    have hu : u = .int .i64 vs[k] := by injection hj with hj; exact hj.symm
    rw [hu]
    exact (h.atI hk2).other (.inr (by omega)) _

theorem regI_at {b off n p g i : Nat} (hi : i < n) : regF iE b off n p g b (off + i) := by
  have := inReg_at (E := iE) (b := b) (off := off) (p := p) (g := g) hi (j := 0) (by decide)
  rwa [show off + i * iE.sz + 0 = off + i by show off + i * 1 + 0 = off + i; omega] at this
set_option maxHeartbeats 4000000 in
theorem take_i {w : World} {r b off n p g : Nat} {vs : List Int} {X : List Bool} (h : RegS iE w r b off n p g vs X) (hT : Tab w) (v : Int) :
    Calls Tryd.prog 11 #[.pointer (some ⟨r, 0, none⟩), .int .i64 v] w fun e w' => e = .returned (.tuple #[.int .i64 (nextV X false 0), .bool (nextO X false 0)]) ∧ RegS iE w' r b off n p g (takeV vs X v) (takeX X) ∧ FrC (regF iE b off n p g) w w' := by
  obtain ⟨A, hA, hA2⟩ := h.c0
  have a0 := hA.1
  have a1 := h.c1.1
  have hxl := h.set.lt.2.2.2
  have hxn := h.lx
  replace h := Lib.hid h; replace hA := Lib.hid hA
  go_enter Tryd.func11, Tryd.ntmps11
  go_wp2_with fail
  refine (gap_s h.out.set hT 0).mono ?_
  rintro e w1 ⟨rfl, m, rfl⟩
  have H1 := Lib.hid (h.out.drewN m)
  cases hn : nextB X false 0 with
  | none =>
    have e1 := nextO_none (X := X) (b := false) (k := 0) hn
    have hv := Lib.hid (show takeV vs X v = vs by unfold takeV; rw [hn])
    have hx := Lib.hid (show takeX X = X by unfold takeX; rw [hn])
    have E1 := Lib.hid e1
    rw [e1.1, e1.2]
    clear e1 hn
    go_wp2
    go_ret2
    exact ⟨by rw [E1.out.1, E1.out.2]; rfl, by rw [hv.out, hx.out]; exact H1.out, (FrC.refl _ _).drewN m⟩
  | some j =>
    have e1 := nextO_some (X := X) (b := false) (k := 0) hn
    obtain ⟨hj, _, hjx, _⟩ := nextB_of hn
    have hv := Lib.hid (show takeV vs X v = vs.set j v by unfold takeV; rw [hn])
    have hx := Lib.hid (show takeX X = X.set j true by unfold takeX; rw [hn])
    have E1 := Lib.hid e1
    have hp := Lib.hid (put_at hj hjx)
    rw [e1.1, e1.2]
    have hjn : j < n := by rw [← hxn]; exact hj
    obtain rfl := hA2 (by omega)
    have hj4 : j < 4096 := by omega
    have b0 := (show (w.drewN m).cell? ⟨r, 0, none⟩ = some (.slice (some ⟨b, off, none⟩) n n) from a0)
    have b1 := (show (w.drewN m).cell? ⟨r, 1, none⟩ = some (.pointer (some ⟨p, 0, none⟩)) from a1)
    have FD := Lib.hid ((FrC.refl (regF iE b off n p g) w).drewN m)
    clear e1 hn hjx a0 a1 hT h
    generalize w.drewN m = w1 at *
    go_wp2_with fail
    refine (put_s H1.out.set j).mono ?_
    rintro e w2 ⟨rfl, K, F⟩
    rw [hp.out.2] at K
    have H2 := Lib.hid (H1.out.turnX K F (by rw [List.length_set]))
    have F2 := Lib.hid (FD.out.then_ (FrB.reg (E := iE) (b := b) (off := off) (n := n) F) (fun _ _ _ h => h))
    obtain ⟨A', hA', hA2'⟩ := H2.out.c0
    obtain rfl := hA2' (by omega)
    have d0 := hA'.1
    have hc := H2.out.atI (i := j) (by rw [H2.out.lv]; exact hjn)
    have hc1 := hc.1; have hc2 := hc.2
    have eqj : IntKind.i64.wrap (j : Int) = (j : Int) := by rw [IntKind.wrap_i64]; omega
    clear K F b0 b1 H1 FD hc hA2'
    go_wp2
    go_ret2
    exact ⟨by rw [E1.out.1, E1.out.2]; rfl, by rw [hv.out, hx.out]; exact H2.out.setI v, F2.out.then_ (FrC.set w2 b (off + j) _) (fun i o _ e => by rw [e.1, e.2]; exact regI_at hjn)⟩

set_option maxHeartbeats 4000000 in
theorem give_i {w : World} {r b off n p g : Nat} {vs : List Int} {X : List Bool} (h : RegS iE w r b off n p g vs X) (k : Int) :
    Calls Tryd.prog 13 #[.pointer (some ⟨r, 0, none⟩), .int .i64 k] w fun e w' => e = .returned (.bool (hasB X k)) ∧ RegS iE w' r b off n p g (giveV 0 vs X k) (dropL X k) ∧ FrC (regF iE b off n p g) w w' := by
  obtain ⟨A, hA, hA2⟩ := h.c0
  have a1 := h.c1.1
  have hxl := h.set.lt.2.2.2
  have hxn := h.lx
  replace h := Lib.hid h; replace hA := Lib.hid hA
  go_enter Tryd.func13, Tryd.ntmps13
  go_wp2_with fail
  refine (drop_s h.out.set k).mono ?_
  rintro e w1 ⟨rfl, K, F⟩
  have H1 := Lib.hid (h.out.turnX K F (dropLen X k))
  have F1 := Lib.hid (FrB.reg (E := iE) (b := b) (off := off) (n := n) F)
  clear K F a1
  cases hh : hasB X k with
  | false =>
    have hv := Lib.hid (show giveV 0 vs X k = vs by unfold giveV; rw [hh]; rfl)
    have hhd := Lib.hid hh
    clear hh
    go_wp2
    go_ret
    exact ⟨by rw [hhd.out]; rfl, by rw [hv.out]; exact H1.out, F1.out⟩
  | true =>
    obtain ⟨j, rfl, hj⟩ := has_at hh
    have hv := Lib.hid (show giveV 0 vs X (j : Int) = vs.set j 0 by unfold giveV; rw [hh]; rfl)
    have hhd := Lib.hid hh
    have hjn : j < n := by rw [← hxn]; exact hj
    have hj4 : j < 4096 := by omega
    obtain ⟨A', hA', hA2'⟩ := H1.out.c0
    obtain rfl := hA2' (by omega)
    have d0 := hA'.1
    have hc := H1.out.atI (i := j) (by rw [H1.out.lv]; exact hjn)
    have hc1 := hc.1; have hc2 := hc.2
    have eqj : IntKind.i64.wrap (j : Int) = (j : Int) := by rw [IntKind.wrap_i64]; omega
    clear hc hA2' hh h hA hA2
    go_wp2
    go_ret
    exact ⟨by rw [hhd.out]; rfl, by rw [hv.out]; exact H1.out.setI 0, F1.out.then_ (FrC.set w1 b (off + j) _) (fun i o _ e => by rw [e.1, e.2]; exact regI_at hjn)⟩

set_option maxHeartbeats 4000000 in
theorem set_i {w : World} {r b off n p g : Nat} {vs : List Int} {X : List Bool} (h : RegS iE w r b off n p g vs X) (k v : Int) :
    Calls Tryd.prog 22 #[.pointer (some ⟨r, 0, none⟩), .int .i64 k, .int .i64 v] w fun e w' => e = .returned (.bool (hasB X k)) ∧ RegS iE w' r b off n p g (setV vs X k v) X ∧ FrC (regF iE b off n p g) w w' := by
  obtain ⟨A, hA, hA2⟩ := h.c0
  have a0 := hA.1
  have a1 := h.c1.1
  have hxl := h.set.lt.2.2.2
  have hxn := h.lx
  replace h := Lib.hid h; replace hA := Lib.hid hA
  go_enter Tryd.func22, Tryd.ntmps22
  go_wp2_with fail
  refine (has_s h.out.set k).mono ?_
  rintro e w1 ⟨rfl, rfl⟩
  cases hh : hasB X k with
  | false =>
    have hv := Lib.hid (show setV vs X k v = vs by unfold setV; rw [hh]; rfl)
    have hhd := Lib.hid hh
    clear hh
    go_wp2
    go_ret
    exact ⟨by rw [hhd.out]; rfl, by rw [hv.out]; exact h.out, FrC.refl _ _⟩
  | true =>
    obtain ⟨j, rfl, hj⟩ := has_at hh
    have hv := Lib.hid (show setV vs X (j : Int) v = vs.set j v by unfold setV; rw [hh]; rfl)
    have hhd := Lib.hid hh
    have hjn : j < n := by rw [← hxn]; exact hj
    have hj4 : j < 4096 := by omega
    obtain rfl := hA2 (by omega)
    have hc := h.out.atI (i := j) (by rw [h.out.lv]; exact hjn)
    have hc1 := hc.1; have hc2 := hc.2
    have eqj : IntKind.i64.wrap (j : Int) = (j : Int) := by rw [IntKind.wrap_i64]; omega
    clear hc hA2 hh hA
    go_wp2
    go_ret
    exact ⟨by rw [hhd.out]; rfl, by rw [hv.out]; exact h.out.setI v, FrC.set w b (off + j) _ |>.mono (fun i o e => by rw [e.1, e.2]; exact regI_at hjn)⟩

set_option maxHeartbeats 4000000 in
theorem at_i {w : World} {r b off n p g : Nat} {vs : List Int} {X : List Bool} (h : RegS iE w r b off n p g vs X) (k : Int) :
    Calls Tryd.prog 25 #[.pointer (some ⟨r, 0, none⟩), .int .i64 k] w fun e w' => e = .returned (.tuple #[.int .i64 (atV 0 vs X k), .bool (hasB X k)]) ∧ w = w' := by
  obtain ⟨A, hA, hA2⟩ := h.c0
  have a0 := hA.1
  have a1 := h.c1.1
  have hxl := h.set.lt.2.2.2
  have hxn := h.lx
  replace h := Lib.hid h; replace hA := Lib.hid hA
  go_enter Tryd.func25, Tryd.ntmps25
  go_wp2_with fail
  refine (has_s h.out.set k).mono ?_
  rintro e w1 ⟨rfl, rfl⟩
  cases hh : hasB X k with
  | false =>
    have hv := Lib.hid (show atV 0 vs X k = 0 by unfold atV; rw [hh]; rfl)
    have hhd := Lib.hid hh
    clear hh
    go_wp2
    go_ret2
    exact ⟨by rw [hv.out, hhd.out]; rfl, rfl⟩
  | true =>
    obtain ⟨j, rfl, hj⟩ := has_at hh
    have hjn : j < n := by rw [← hxn]; exact hj
    have hjv : j < vs.length := by rw [h.out.lv]; exact hjn
    have hv := Lib.hid (show atV 0 vs X (j : Int) = vs[j] by unfold atV; rw [hh]; simp [hjv])
    have hj4 : j < 4096 := by omega
    obtain rfl := hA2 (by omega)
    have hc1 := (h.out.atI (i := j) hjv).1
    rw [← hv.out] at hc1
    have eqj : IntKind.i64.wrap (j : Int) = (j : Int) := by rw [IntKind.wrap_i64]; omega
    have hhd := Lib.hid hh
    have hjI : (j : Int) < (n : Int) := by omega
    have hj0 : (0 : Int) ≤ (j : Int) := by omega
    clear hA2 hh hA
    go_wp2
    go_ret2
    exact ⟨by rw [hhd.out]; rfl, rfl⟩

theorem countR_i {w : World} {r b off n p g : Nat} {vs : List Int} {X : List Bool} (h : RegS iE w r b off n p g vs X) :
    Calls Tryd.prog 12 #[.pointer (some ⟨r, 0, none⟩)] w fun e w' => e = .returned (.int .i64 (X.count true)) ∧ w = w' := by
  have a1 := h.c1.1
  replace h := Lib.hid h
  go_enter Tryd.func12, Tryd.ntmps12
  go_wp2_with fail
  refine (count_s h.out.set).mono ?_
  rintro e w1 ⟨rfl, rfl⟩
  go_wp2
  go_ret
  exact ⟨rfl, rfl⟩
theorem hasR_i {w : World} {r b off n p g : Nat} {vs : List Int} {X : List Bool} (h : RegS iE w r b off n p g vs X) (k : Int) :
    Calls Tryd.prog 43 #[.pointer (some ⟨r, 0, none⟩), .int .i64 k] w fun e w' => e = .returned (.bool (hasB X k)) ∧ w = w' := by
  have a1 := h.c1.1
  replace h := Lib.hid h
  go_enter Tryd.func43, Tryd.ntmps43
  go_wp2_with fail
  refine (has_s h.out.set k).mono ?_
  rintro e w1 ⟨rfl, rfl⟩
  go_wp2
  go_ret
  exact ⟨rfl, rfl⟩
theorem roomR_i {w : World} {r b off n p g : Nat} {vs : List Int} {X : List Bool} (h : RegS iE w r b off n p g vs X) :
    Calls Tryd.prog 14 #[.pointer (some ⟨r, 0, none⟩)] w fun e w' => e = .returned (.int .i64 n) ∧ w = w' := by
  obtain ⟨A, hA, hA2⟩ := h.c0
  have a0 := hA.1
  replace h := Lib.hid h
  clear hA hA2
  go_enter Tryd.func14, Tryd.ntmps14
  go_wp2
  go_ret
  exact ⟨rfl, rfl⟩
end Go.Proofs.YtlkhpkdndmlnaaaDoor
