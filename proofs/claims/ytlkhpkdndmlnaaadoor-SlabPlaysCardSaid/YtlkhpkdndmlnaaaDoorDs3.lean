/- SlabPlays: a step, and is a region the document's? -/
import Derived.Test.YtlkhpkdndmlnaaaDoorRef03
import Derived.Test.YtlkhpkdndmlnaaaDoorHeldI
import Derived.Test.YtlkhpkdndmlnaaaDoorSame
namespace Go.Proofs.YtlkhpkdndmlnaaaDoor
open Go.RowKit
set_option linter.unusedVariables false
set_option linter.unusedSimpArgs false
set_option linter.unusedSectionVars false
set_option maxRecDepth 100000

/-- The document's region beside the slab's. -/
def pl (vs : List Int) (X : List Bool) : List Pl := List.zipWith Pl.mk X vs
theorem pl_length {vs : List Int} {X : List Bool} (h : vs.length = X.length) : (pl vs X).length = X.length := by simp [pl, h]
theorem isL_pl {vs : List Int} {X : List Bool} (h : vs.length = X.length) : isL (pl vs X) = X := by
  apply List.ext_getElem
  · simp [pl_length h]
  · intro i h1 h2; simp [isL, pl]
theorem pl_set (vs : List Int) (X : List Bool) (k : Nat) (b : Bool) (v : Int) : (pl vs X).set k ⟨b, v⟩ = pl (vs.set k v) (X.set k b) := by
  apply List.ext_getElem
  · simp [pl]
  · intro i h1 h2
    simp only [pl, List.getElem_set, List.getElem_zipWith]
    split <;> rfl
theorem pl_at {vs : List Int} {X : List Bool} {k : Nat} (h : k < (pl vs X).length) (hv : k < vs.length) : (pl vs X)[k].v = vs[k] := by simp [pl]
theorem pl_new (n : Nat) : pl (List.replicate n 0) (List.replicate n false) = List.replicate n Pl.zero := by
  simp [pl, Pl.zero]
theorem OwnE.keepR {w w' : World} {base b off n p g : Nat} {v : Value} {P : List Pl} (O : OwnE plE w base v P) (F : FrC (regF iE b off n p g) w w') (hq : ∀ q, v.ownBlock = some q → q ≠ p ∧ q ≠ g ∧ q ≠ b) : OwnE plE w' base v P :=
  O.block (fun q hk => F.block q (O.lt q hk).2 (fun o e => by
    obtain ⟨h1, h2, h3⟩ := hq q hk
    rcases e with (e | e) | e
    · exact h1 e
    · exact h2 e
    · exact h3 e.1))
/-- What is there behind a step. -/
structure DoesP (w w' : World) (base r b off n p g : Nat) (v v' : Value) (vs : List Int) (X : List Bool) : Prop where
  R : RegS iE w' r b off n p g vs X
  F : FrC (regF iE b off n p g) w w'
  O : OwnE plE w' base v' (pl vs X)
  q : ∀ q, v'.ownBlock = some q → v.ownBlock = some q ∨ w.heap.size ≤ q
theorem DoesP.stay {w w0 w' : World} {base r b off n p g : Nat} {v : Value} {vs : List Int} {X : List Bool} (h0 : Below w.heap.size w w0) (R : RegS iE w' r b off n p g vs X) (F : FrC (regF iE b off n p g) w0 w') (O : OwnE plE w base v (pl vs X)) (hq : ∀ q, v.ownBlock = some q → q ≠ p ∧ q ≠ g ∧ q ≠ b) :
    DoesP w w' base r b off n p g v v vs X :=
  ⟨R, (FrC.of_below h0 (Nat.le_refl _)).then_ F (fun _ _ _ h => h), (O.below h0).block (fun q hk => F.block q (Nat.lt_of_lt_of_le (O.lt q hk).2 h0.size) (fun o e => by
    obtain ⟨h1, h2, h3⟩ := hq q hk
    rcases e with (e | e) | e
    · exact h1 e
    · exact h2 e
    · exact h3 e.1)), fun q hk => .inl hk⟩
theorem DoesP.turn {w w0 w1 w' : World} {base r b off n p g : Nat} {v v' : Value} {vs : List Int} {X : List Bool} (h0 : Below w.heap.size w w0) (hb : base ≤ w.heap.size) (R : RegS iE w1 r b off n p g vs X) (F : FrC (regF iE b off n p g) w0 w1)
    (O : OwnE plE w' w1.heap.size v' (pl vs X)) (B : Below w1.heap.size w1 w') : DoesP w w' base r b off n p g v v' vs X :=
  ⟨R.below B, ((FrC.of_below h0 (Nat.le_refl _)).then_ F (fun _ _ _ h => h)).then_ (FrC.of_below B (Nat.le_refl _)) (fun _ _ _ h => h), O.mono (by have := h0.size; have := F.size; omega), fun q hk => .inr (by have := (O.lt q hk).1; have := h0.size; have := F.size; omega)⟩

set_option maxHeartbeats 8000000 in
theorem does_c {w : World} {base r b off n p g c m : Nat} {A : Option Addr} {vs : List Int} {X : List Bool} (h : RegS iE w r b off n p g vs X) (hT : Tab w) (O : OwnE plE w base (.slice A m c) (pl vs X)) (hm : m = X.length) (hb : base ≤ w.heap.size)
    (hq : ∀ q, (Value.slice A m c).ownBlock = some q → q ≠ p ∧ q ≠ g ∧ q ≠ b) (hbl : b < w.heap.size) (orr ok k v : Int) :
    Calls Tryd.prog 29 #[.pointer (some ⟨r, 0, none⟩), .slice A m c, .agg #[.int .i64 orr, .int .i64 ok, .int .i64 k, .int .i64 v]] w fun e w' => ∃ v' vs' X', e = .returned (.tuple #[v', .bool true]) ∧ DoesP w w' base r b off n p g (.slice A m c) v' vs' X' := by
  have hlv : vs.length = X.length := by rw [h.lv, h.lx]
  have hx4 := h.set.lt.2.2.2
  have hlt := h.lt
  obtain ⟨P, hP⟩ : ∃ P, P = pl vs X := ⟨_, rfl⟩
  have hPl : P.length = m := by rw [hP, pl_length hlv, hm]
  have hPi : isL P = X := by rw [hP, isL_pl hlv]
  rw [← hP] at O
  have hP4 : P.length ≤ 4096 := by rw [hPl, hm]; omega
  have RP := O.row.1
  have FA := blA (Below.refl w.heap.size w) (.cells #[.int .i64 orr, .int .i64 ok, .int .i64 k, .int .i64 v] 49)
  have y1 := (Cel.new w #[.int .i64 orr, .int .i64 ok, .int .i64 k, .int .i64 v] 49 1 (.int .i64 ok) rfl)
  have y2 := (Cel.new w #[.int .i64 orr, .int .i64 ok, .int .i64 k, .int .i64 v] 49 2 (.int .i64 k) rfl)
  have y3 := (Cel.new w #[.int .i64 orr, .int .i64 ok, .int .i64 k, .int .i64 v] 49 3 (.int .i64 v) rfl)
  have R0 := Lib.hid (h.below FA)
  have T0 := Lib.hid (hT.below FA)
  have RP0 := Lib.hid (RP.below FA)
  have hz : Hid (w.heap.size ≠ p ∧ w.heap.size ≠ g ∧ w.heap.size ≠ b) := Lib.hid ⟨by omega, by omega, by omega⟩
  replace FA := Lib.hid FA; replace O := Lib.hid O; replace hq := Lib.hid hq; replace hP := Lib.hid hP; replace hPi := Lib.hid hPi; replace hb := Lib.hid hb
  clear RP h hT hlt hbl
  have hPl' := Lib.hid hPl
  have hasc := has_r (c := c) RP0.out k
  rw [hPl, hPi.out] at hasc
  have hasH := Lib.hid hasc
  clear hasc hPl hm
  go_enter Tryd.func29, Tryd.ntmps29
  go_wp2_with fail
  generalize hW : w.alloc (.cells #[.int .i64 orr, .int .i64 ok, .int .i64 k, .int .i64 v] 49) = W at *
  generalize hZ : w.heap.size = Zb at *
  have f1 := y1.1; have f2 := y2.1; have f3 := y3.1
  refine hasH.out.mono ?_
  rintro e w1 ⟨rfl, rfl⟩
  clear hasH
  replace hW := Lib.hid hW; replace hZ := Lib.hid hZ
  have ST : ∀ {vs' : List Int} {w' : World}, RegS iE w' r b off n p g vs' X → vs' = vs → FrC (regF iE b off n p g) W w' → ∃ v' vs' X', (Value.tuple #[Value.slice A m c, .bool true]) = .tuple #[v', .bool true] ∧ DoesP w w' base r b off n p g (.slice A m c) v' vs' X' := fun R e F => by
    subst e
    exact ⟨_, _, _, rfl, DoesP.stay (by rw [hZ.out]; exact FA.out) R F (by rw [← hP.out]; exact O.out) hq.out⟩
  have KP := fun {w' : World} (F : FrC (regF iE b off n p g) W w') => (OwnE.keepR (O.out.below (by rw [hZ.out]; exact FA.out)) F hq.out)
  by_cases h0 : ok = 0
  · subst h0
    cases hn : nextB X false 0 with
    | none =>
      have e1 := nextO_none (X := X) (b := false) (k := 0) hn
      have hv := Lib.hid (show takeV vs X v = vs by unfold takeV; rw [hn])
      have hx := Lib.hid (show takeX X = X by unfold takeX; rw [hn])
      have E1 := Lib.hid e1
      clear e1 hn
      go_wp2_with fail
      refine (take_i R0.out T0.out v).mono ?_
      rintro e w2 ⟨rfl, R, F⟩
      rw [hx.out] at R
      have fr := free_r (c := c) (KP F).row.1 hP4
      rw [hPi.out, hPl'.out] at fr
      rw [E1.out.1, E1.out.2] at fr ⊢
      have FI := Lib.hid (ST R hv.out F)
      clear R F ST KP
      go_wp2_with fail
      refine fr.mono ?_
      rintro e w3 ⟨rfl, rfl⟩
      clear fr
      go_wp2
      go_ret2
      obtain ⟨v', vs', X', e, D⟩ := FI.out
      exact ⟨v', vs', X', by rw [← e]; rfl, D⟩
    | some j =>
      have e1 := nextO_some (X := X) (b := false) (k := 0) hn
      obtain ⟨hj, -, -, -⟩ := nextB_of hn
      have hv := Lib.hid (show takeV vs X v = vs.set j v by unfold takeV; rw [hn])
      have hx := Lib.hid (show takeX X = X.set j true by unfold takeX; rw [hn])
      have E1 := Lib.hid e1
      have hj4 : j < 4096 := by omega
      clear e1 hn
      go_wp2_with fail
      refine (take_i R0.out T0.out v).mono ?_
      rintro e w2 ⟨rfl, R, F⟩
      rw [hx.out, hv.out] at R
      have g3 := (F.keep hz.out y3).1
      have fr := free_r (c := c) (KP F).row.1 hP4
      have wr := with_r (c := c) (KP F).row.1 hP4 (k := j) (by rw [hPl'.out]; rw [← hPl'.out, hP.out, pl_length hlv]; exact hj) ⟨true, v⟩
      rw [hPi.out, hPl'.out] at fr
      rw [hPl'.out, hP.out, pl_set] at wr
      rw [E1.out.1, E1.out.2] at fr ⊢
      have FI := Lib.hid (And.intro R F)
      have eb : ((j : Int) != (j : Int)) = false := by simp
      clear R F ST KP
      go_wp2_with fail
      refine fr.mono ?_
      rintro e w3 ⟨rfl, rfl⟩
      clear fr
      go_wp2_with fail
      refine wr.mono ?_
      rintro e w3 ⟨v', rfl, O', B'⟩
      have D := Lib.hid (DoesP.turn (v := .slice A m c) (by rw [hZ.out]; exact FA.out) (by rw [hZ.out]; exact hb.out) FI.out.1 FI.out.2 O' B')
      obtain ⟨A', c', rfl, -⟩ := O'.slice
      clear O' B' FI g3 wr
      go_wp2
      go_ret2
      exact ⟨_, _, _, rfl, D.out⟩
  by_cases h1 : ok = 1
  · subst h1
    clear h0
    have eb : (hasB X k != hasB X k) = false := by simp
    cases hh : hasB X k with
    | false =>
      have hv := Lib.hid (show giveV 0 vs X k = vs by unfold giveV; rw [hh]; rfl)
      have hx := Lib.hid (show dropL X k = X by unfold dropL; rw [hh]; rfl)
      have gv := give_i R0.out k
      rw [hh] at gv eb
      have GV := Lib.hid gv
      clear gv hh
      go_wp2_with fail
      refine GV.out.mono ?_
      rintro e w2 ⟨rfl, R, F⟩
      rw [hx.out] at R
      have FI := Lib.hid (ST R hv.out F)
      clear R F ST KP GV
      go_wp2
      go_ret2
      obtain ⟨v', vs', X', e, D⟩ := FI.out
      exact ⟨v', vs', X', by rw [← e]; rfl, D⟩
    | true =>
      obtain ⟨j, rfl, hj⟩ := has_at hh
      have hv := Lib.hid (show giveV 0 vs X (j : Int) = vs.set j 0 by unfold giveV; rw [hh]; rfl)
      have hx := Lib.hid (show dropL X (j : Int) = X.set j false by unfold dropL; rw [hh]; rfl)
      have hj4 : j < 4096 := by omega
      have gv := give_i R0.out j
      rw [hh] at gv eb
      have GV := Lib.hid gv
      clear gv hh
      go_wp2_with fail
      refine GV.out.mono ?_
      rintro e w2 ⟨rfl, R, F⟩
      rw [hx.out, hv.out] at R
      have g2 := (F.keep hz.out y2).1
      have wr := with_r (c := c) (KP F).row.1 hP4 (k := j) (by rw [hPl'.out]; rw [← hPl'.out, hP.out, pl_length hlv]; exact hj) ⟨false, 0⟩
      rw [hPl'.out, hP.out, pl_set] at wr
      have FI := Lib.hid (And.intro R F)
      clear R F ST KP GV
      go_wp2_with fail
      refine wr.mono ?_
      rintro e w3 ⟨v', rfl, O', B'⟩
      have D := Lib.hid (DoesP.turn (v := .slice A m c) (by rw [hZ.out]; exact FA.out) (by rw [hZ.out]; exact hb.out) FI.out.1 FI.out.2 O' B')
      obtain ⟨A', c', rfl, -⟩ := O'.slice
      clear O' B' FI g2 wr
      go_wp2
      go_ret2
      exact ⟨_, _, _, rfl, D.out⟩
  by_cases h2 : ok = 2
  · subst h2
    clear h0 h1
    have eb : (hasB X k != hasB X k) = false := by simp
    cases hh : hasB X k with
    | false =>
      have hv := Lib.hid (show setV vs X k v = vs by unfold setV; rw [hh]; rfl)
      have gv := set_i R0.out k v
      rw [hh] at gv eb
      have GV := Lib.hid gv
      clear gv hh
      go_wp2_with fail
      refine GV.out.mono ?_
      rintro e w2 ⟨rfl, R, F⟩
      have FI := Lib.hid (ST R hv.out F)
      clear R F ST KP GV
      go_wp2
      go_ret2
      obtain ⟨v', vs', X', e, D⟩ := FI.out
      exact ⟨v', vs', X', by rw [← e]; rfl, D⟩
    | true =>
      obtain ⟨j, rfl, hj⟩ := has_at hh
      have hv := Lib.hid (show setV vs X (j : Int) v = vs.set j v by unfold setV; rw [hh]; rfl)
      have hx := Lib.hid (show X.set j true = X by
        rw [hasB_nat hj] at hh
        rw [← hh]; exact List.set_getElem_self hj)
      have hj4 : j < 4096 := by omega
      have gv := set_i R0.out j v
      rw [hh] at gv eb
      have GV := Lib.hid gv
      clear gv hh
      go_wp2_with fail
      refine GV.out.mono ?_
      rintro e w2 ⟨rfl, R, F⟩
      rw [hv.out] at R
      have g2 := (F.keep hz.out y2).1
      have g3 := (F.keep hz.out y3).1
      have wr := with_r (c := c) (KP F).row.1 hP4 (k := j) (by rw [hPl'.out]; rw [← hPl'.out, hP.out, pl_length hlv]; exact hj) ⟨true, v⟩
      rw [hPl'.out, hP.out, pl_set, hx.out] at wr
      have FI := Lib.hid (And.intro R F)
      clear R F ST KP GV
      go_wp2_with fail
      refine wr.mono ?_
      rintro e w3 ⟨v', rfl, O', B'⟩
      have D := Lib.hid (DoesP.turn (v := .slice A m c) (by rw [hZ.out]; exact FA.out) (by rw [hZ.out]; exact hb.out) FI.out.1 FI.out.2 O' B')
      obtain ⟨A', c', rfl, -⟩ := O'.slice
      clear O' B' FI g2 g3 wr
      go_wp2
      go_ret2
      exact ⟨_, _, _, rfl, D.out⟩
  · have e0 : (ok == 0) = false := by simp [h0]
    have e1 : (ok == 1) = false := by simp [h1]
    have e2 : (ok == 2) = false := by simp [h2]
    have FI := Lib.hid (ST R0.out rfl (FrC.refl _ _))
    clear ST KP h0 h1 h2
    go_wp2
    go_ret2
    obtain ⟨v', vs', X', e, D⟩ := FI.out
    exact ⟨v', vs', X', by rw [← e]; rfl, D⟩
end Go.Proofs.YtlkhpkdndmlnaaaDoor
