/- Regions of slabs in memory: what they hold, and what leaves them as they are. -/
import Derived.Test.YtaflekpfpdnbcaaDoorBitS4
import Derived.Deep.RegionHeld3
import Derived.Test.YtaflekpfpdnbcaaDoorOwnE
import Derived.Laws.IdiomCopy
namespace Go.Proofs.YtaflekpfpdnbcaaDoor
open Go.RowKit
set_option linter.unusedVariables false
set_option linter.unusedSimpArgs false
set_option linter.unusedSectionVars false
set_option maxRecDepth 100000

/-- Between two worlds no cell has turned but those of S. -/
structure FrC (S : Nat → Nat → Prop) (w w' : World) : Prop where
  os : w'.os = w.os
  tape : w'.tape = w.tape
  output : w'.output = w.output
  size : w.heap.size ≤ w'.heap.size
  block : ∀ k, k < w.heap.size → (∀ o, ¬ S k o) → w'.heap[k]? = w.heap[k]?
  cel : ∀ k o v, ¬ S k o → Cel w k o v → Cel w' k o v
theorem FrC.refl (S : Nat → Nat → Prop) (w : World) : FrC S w w := ⟨rfl, rfl, rfl, Nat.le_refl _, fun _ _ _ => rfl, fun _ _ _ _ h => h⟩
theorem FrC.then_ {S S2 : Nat → Nat → Prop} {a b c : World} (h : FrC S a b) (k : FrC S2 b c) (hs : ∀ i o, i < a.heap.size → S2 i o → S i o) : FrC S a c :=
  ⟨k.os.trans h.os, k.tape.trans h.tape, k.output.trans h.output, Nat.le_trans h.size k.size,
    fun i hi hn => (k.block i (Nat.lt_of_lt_of_le hi h.size) (fun o h2 => hn o (hs i o hi h2))).trans (h.block i hi hn),
    fun i o v hn hc => k.cel i o v (fun h2 => hn (hs i o hc.lt h2)) (h.cel i o v hn hc)⟩
theorem FrC.mono {S S' : Nat → Nat → Prop} {a b : World} (h : FrC S a b) (hs : ∀ i o, S i o → S' i o) : FrC S' a b :=
  ⟨h.os, h.tape, h.output, h.size, fun k hk hn => h.block k hk (fun o h2 => hn o (hs k o h2)), fun k o v hn hc => h.cel k o v (fun h2 => hn (hs k o h2)) hc⟩
theorem FrC.of_frb {S : Nat → Prop} {a b : World} (h : FrB S a b) : FrC (fun k _ => S k) a b :=
  ⟨h.os, h.tape, h.output, h.size, fun k hk hn => h.block k hk (hn 0), fun k o v hn hc => hc.frb h hn⟩
theorem FrC.of_below {B : Nat} {S : Nat → Nat → Prop} {a b : World} (h : Below B a b) (hB : a.heap.size ≤ B) : FrC S a b :=
  ⟨h.os, h.tape, h.output, h.size, fun k hk _ => h.block k (by omega), fun k o v _ hc => hc.frb (FrB.of_below (S := fun _ => False) h hB) (fun h => h)⟩
theorem FrC.of_low {B : Nat} {a b : World} (h : Below B a b) (hB : B ≤ a.heap.size) : FrC (fun k _ => B ≤ k) a b :=
  ⟨h.os, h.tape, h.output, h.size, fun k hk hn => h.block k (Nat.lt_of_not_le (hn 0)), fun k o v hn hc => by
    have hk : k < B := Nat.lt_of_not_le hn
    exact ⟨(World.cell?_of_block (h.block k hk)).trans hc.1, (World.frozen?_of_block (h.block k hk)).trans hc.2⟩⟩
theorem FrC.set (a : World) (k o : Nat) (v : Value) : FrC (fun i j => i = k ∧ j = o) a (a.setCell ⟨k, o, none⟩ v) :=
  ⟨rfl, rfl, rfl, by simp, fun i hi hn => Below.heap_setCell _ _ _ _ (fun e => hn o ⟨e, rfl⟩), fun i j u hn hc => hc.other (by
    by_cases h1 : k = i
    · exact .inr (fun e => hn ⟨h1.symm, e.symm⟩)
    · exact .inl h1) _⟩
theorem FrC.below {B : Nat} {S : Nat → Nat → Prop} {a b : World} (h : FrC S a b) (hB : B ≤ a.heap.size) (hs : ∀ k o, k < B → ¬ S k o) : Below B a b :=
  ⟨h.os, h.tape, h.output, h.size, fun k hk => h.block k (by omega) (fun o => hs k o hk)⟩
theorem FrC.drewN {S : Nat → Nat → Prop} {a b : World} (h : FrC S a b) (n : Nat) : FrC S a (b.drewN n) := ⟨h.os, h.tape, h.output, h.size, h.block, h.cel⟩
theorem BitS.frc {S : Nat → Nat → Prop} {w w' : World} {p g : Nat} {ws : List Nat} {X : List Bool} (h : BitS w p g ws X) (hF : FrC S w w') (hp : ∀ o, ¬ S p o) (hg : ∀ o, ¬ S g o) : BitS w' p g ws X :=
  ⟨hF.cel _ _ _ (hp _) h.c0, hF.cel _ _ _ (hp _) h.c1, hF.cel _ _ _ (hp _) h.c2, fun i hi => hF.cel _ _ _ (hg _) (h.wd i hi), Nat.lt_of_lt_of_le h.gl hF.size, h.ne, h.inv, h.len⟩
theorem SetB.frc {S : Nat → Nat → Prop} {w w' : World} {p g : Nat} {X : List Bool} (h : SetB w p g X) (hF : FrC S w w') (hp : ∀ o, ¬ S p o) (hg : ∀ o, ¬ S g o) : SetB w' p g X := h.imp fun ws h => h.frc hF hp hg
theorem Tab.frc {S : Nat → Nat → Prop} {w w' : World} (h : Tab w) (hF : FrC S w w') (hs : ∀ o, ¬ S 0 o) : Tab w' := fun j hj => (World.cell?_of_block (hF.block _ h.lt hs)).trans (h j hj)

/-- A region: its variable r, its places in block b from off on, which of them are taken. -/
structure RegS {α : Type} (E : Enc α) (w : World) (r b off n p g : Nat) (vs : List α) (X : List Bool) : Prop where
  c0 : ∃ A, Cel w r 0 (.slice A n n) ∧ (0 < n → A = some ⟨b, off, none⟩)
  c1 : Cel w r 1 (.pointer (some ⟨p, 0, none⟩))
  set : SetB w p g X
  cel : ∀ i (h : i < vs.length) j u, (E.f vs[i])[j]? = some u → Cel w b (off + i * E.sz + j) u
  lv : vs.length = n
  lx : X.length = n
  ne : r ≠ p ∧ r ≠ g ∧ r ≠ b ∧ b ≠ p ∧ b ≠ g
section
variable {α : Type} {E : Enc α}
/-- The cells of a region's places. -/
def inReg (b off len : Nat) : Nat → Nat → Prop := fun k o => k = b ∧ off ≤ o ∧ o < off + len
/-- What a region's steps may turn. -/
def regF (E : Enc α) (b off n p g : Nat) : Nat → Nat → Prop := fun k o => (k = p ∨ k = g) ∨ inReg b off (n * E.sz) k o
theorem RegS.frc {S : Nat → Nat → Prop} {w w' : World} {r b off n p g : Nat} {vs : List α} {X : List Bool} (h : RegS E w r b off n p g vs X) (F : FrC S w w') (hr : ∀ o, ¬ S r o) (hp : ∀ o, ¬ S p o) (hg : ∀ o, ¬ S g o) (hb : ∀ o, off ≤ o → o < off + n * E.sz → ¬ S b o) : RegS E w' r b off n p g vs X := by
  obtain ⟨A, hA, hA2⟩ := h.c0
  refine ⟨⟨A, F.cel _ _ _ (hr _) hA, hA2⟩, F.cel _ _ _ (hr _) h.c1, h.set.frc F hp hg, fun i hi j u hj => F.cel _ _ _ (hb _ (by omega) ?_) (h.cel i hi j u hj), h.lv, h.lx, h.ne⟩
  have hj2 : j < E.sz := by
    have := (List.getElem?_eq_some_iff.1 hj).1
    rwa [E.len] at this
  have h1 : i + 1 ≤ n := by have := h.lv; omega
  have h2 : (i + 1) * E.sz ≤ n * E.sz := Nat.mul_le_mul_right _ h1
  rw [Nat.add_mul] at h2
  omega
theorem RegS.below {w w' : World} {r b off n p g : Nat} {vs : List α} {X : List Bool} (h : RegS E w r b off n p g vs X) (F : Below w.heap.size w w') : RegS E w' r b off n p g vs X :=
  h.frc (FrC.of_below (S := fun _ _ => False) F (Nat.le_refl _)) (fun _ h => h) (fun _ h => h) (fun _ h => h) (fun _ _ _ h => h)
theorem RegS.drewN {w : World} {r b off n p g : Nat} {vs : List α} {X : List Bool} (h : RegS E w r b off n p g vs X) (m : Nat) : RegS E (w.drewN m) r b off n p g vs X :=
  h.frc ((FrC.refl (fun _ _ => False) w).drewN m) (fun _ h => h) (fun _ h => h) (fun _ h => h) (fun _ _ _ h => h)
theorem RegS.lt {w : World} {r b off n p g : Nat} {vs : List α} {X : List Bool} (h : RegS E w r b off n p g vs X) : r < w.heap.size ∧ p < w.heap.size ∧ g < w.heap.size := by
  obtain ⟨A, hA, _⟩ := h.c0
  exact ⟨hA.lt, h.set.lt.1, h.set.lt.2.1⟩
theorem FrC.drewF {S : Nat → Nat → Prop} {a b : World} (h : FrC S a b) : FrC S a b.drew := ⟨h.os, h.tape, h.output, h.size, h.block, h.cel⟩
theorem RegS.drew {w : World} {r b off n p g : Nat} {vs : List α} {X : List Bool} (h : RegS E w r b off n p g vs X) : RegS E w.drew r b off n p g vs X :=
  h.frc ((FrC.refl (fun _ _ => False) w).drewF) (fun _ h => h) (fun _ h => h) (fun _ h => h) (fun _ _ _ h => h)
/-- What lies in none of a region's blocks stays where the region turns. -/
theorem FrC.keep {w w' : World} {b off n p g k o : Nat} {v : Value} (F : FrC (regF E b off n p g) w w') (hk : k ≠ p ∧ k ≠ g ∧ k ≠ b) (hc : Cel w k o v) : Cel w' k o v :=
  F.cel k o v (fun e => by
    rcases e with (e | e) | e
    · exact hk.1 e
    · exact hk.2.1 e
    · exact hk.2.2 e.1) hc
/-- The set of a region has turned. -/
theorem RegS.turnX {w w' : World} {r b off n p g : Nat} {vs : List α} {X X' : List Bool} (h : RegS E w r b off n p g vs X) (K : SetB w' p g X') (F : FrB (bitS p g) w w') (hx : X'.length = X.length) : RegS E w' r b off n p g vs X' := by
  obtain ⟨A, hA, hA2⟩ := h.c0
  have hr : ¬ bitS p g r := fun hh => hh.elim (fun e => h.ne.1 e) (fun e => h.ne.2.1 e)
  have hb : ¬ bitS p g b := fun hh => hh.elim (fun e => h.ne.2.2.2.1 e) (fun e => h.ne.2.2.2.2 e)
  exact ⟨⟨A, hA.frb F hr, hA2⟩, h.c1.frb F hr, K, fun i hi j u hj => (h.cel i hi j u hj).frb F hb, h.lv, by rw [hx]; exact h.lx, h.ne⟩
theorem inReg_at {b off n p g i j : Nat} (hi : i < n) (hj : j < E.sz) : regF E b off n p g b (off + i * E.sz + j) := by
  refine .inr ⟨rfl, by omega, ?_⟩
  have h1 : i + 1 ≤ n := hi
  have h2 : (i + 1) * E.sz ≤ n * E.sz := Nat.mul_le_mul_right _ h1
  rw [Nat.add_mul] at h2
  omega
theorem FrB.reg {w w' : World} {b off n p g : Nat} (h : FrB (bitS p g) w w') : FrC (regF E b off n p g) w w' := (FrC.of_frb h).mono (fun i o h => .inl h)
/-- Some cells of a block are written, one by one. -/
theorem FrC.setL (k : Nat) : ∀ (vs : List Value) (o : Nat) (a : World), FrC (fun i j => i = k ∧ o ≤ j ∧ j < o + vs.length) a (a.setCells k o vs)
  | [], o, a => FrC.refl _ _
  | v :: r, o, a => by
    refine ((FrC.set a k o v).mono (fun i j h => ⟨h.1, by omega, by simp; omega⟩)).then_ (FrC.setL k r (o + 1) (a.setCell ⟨k, o, none⟩ v)) (fun i j _ h => ⟨h.1, by omega, by simp; omega⟩)
theorem Cel.setL_out {w : World} {b o : Nat} {v : Value} (h : Cel w b o v) {k s : Nat} {vs : List Value} (hne : b ≠ k ∨ o < s ∨ s + vs.length ≤ o) : Cel (w.setCells k s vs) b o v :=
  (FrC.setL k vs s w).cel b o v (fun e => by rcases hne with h1 | h1 | h1 <;> omega) h
theorem Cel.setL_in {b : Nat} : ∀ (vs : List Value) (s : Nat) (w : World), (∀ j, j < vs.length → ∃ v, Cel w b (s + j) v) → ∀ j v, vs[j]? = some v → Cel (w.setCells b s vs) b (s + j) v
  | [], s, w, _, j, v, hv => by simp at hv
  | u :: r, s, w, hc, j, v, hv => by
    obtain ⟨v0, h0⟩ := hc 0 (by simp)
    have hs : Cel (w.setCell ⟨b, s, none⟩ u) b s u := by
      have := h0.same u
      rwa [Nat.add_zero] at this
    cases j with
    | zero =>
      have : u = v := by simpa using hv
      subst this
      exact hs.setL_out (.inr (.inl (by omega)))
    | succ j =>
      rw [show s + (j + 1) = s + 1 + j by omega]
      refine Cel.setL_in r (s + 1) (w.setCell ⟨b, s, none⟩ u) (fun i hi => ?_) j v (by simpa using hv)
      obtain ⟨v1, h1⟩ := hc (i + 1) (by simp; omega)
      rw [show s + (i + 1) = s + 1 + i by omega] at h1
      exact ⟨v1, h1.other (.inr (by omega)) _⟩
/-- A place is written. -/
theorem RegS.setE {w : World} {r b off n p g i : Nat} {vs : List α} {X : List Bool} (h : RegS E w r b off n p g vs X) (hi : i < vs.length) (y : α) :
    RegS E (w.setCells b (off + i * E.sz) (E.f y)) r b off n p g (vs.set i y) X ∧ FrC (regF E b off n p g) w (w.setCells b (off + i * E.sz) (E.f y)) := by
  have F0 := FrC.setL b (E.f y) (off + i * E.sz) w
  have F : FrC (regF E b off n p g) w (w.setCells b (off + i * E.sz) (E.f y)) := F0.mono (fun k j e => by
    obtain ⟨rfl, e1, e2⟩ := e
    rw [E.len] at e2
    have := inReg_at (E := E) (b := k) (off := off) (n := n) (p := p) (g := g) (i := i) (j := j - (off + i * E.sz)) (by rw [← h.lv]; exact hi) (by omega)
    rwa [show off + i * E.sz + (j - (off + i * E.sz)) = j by omega] at this)
  refine ⟨?_, F⟩
  obtain ⟨A, hA, hA2⟩ := h.c0
  refine ⟨⟨A, F0.cel _ _ _ (fun e => h.ne.2.2.1 e.1) hA, hA2⟩, F0.cel _ _ _ (fun e => h.ne.2.2.1 e.1) h.c1, h.set.frc F0 (fun o e => h.ne.2.2.2.1 e.1.symm) (fun o e => h.ne.2.2.2.2 e.1.symm), fun k hk j u hj => ?_, by rw [List.length_set]; exact h.lv, h.lx, h.ne⟩
  have hk2 : k < vs.length := by rw [List.length_set] at hk; exact hk
  by_cases hki : k = i
  · subst hki
    rw [List.getElem_set_self] at hj
    refine Cel.setL_in (E.f y) (off + k * E.sz) w (fun j' hj' => ?_) j u hj
    rw [E.len] at hj'
    have : j' < (E.f vs[k]).length := by rw [E.len]; exact hj'
    exact ⟨_, h.cel k hk2 j' _ (List.getElem?_eq_getElem this)⟩
  · rw [List.getElem_set_ne (fun e => hki e.symm)] at hj
    have hj2 : j < E.sz := by
      have := (List.getElem?_eq_some_iff.1 hj).1
      rwa [E.len] at this
    refine (h.cel k hk2 j u hj).setL_out (.inr ?_)
    rw [E.len]
    rcases Nat.lt_or_ge k i with h1 | h1
    · have h2 : (k + 1) * E.sz ≤ i * E.sz := Nat.mul_le_mul_right _ h1
      rw [Nat.add_mul] at h2; omega
    · have h2 : (i + 1) * E.sz ≤ k * E.sz := Nat.mul_le_mul_right _ (by omega)
      rw [Nat.add_mul] at h2; omega

def takeX (X : List Bool) : List Bool := match nextB X false 0 with | some j => X.set j true | none => X
def takeV {α : Type} (vs : List α) (X : List Bool) (v : α) : List α := match nextB X false 0 with | some j => vs.set j v | none => vs
theorem put_at {X : List Bool} {j : Nat} (hj : j < X.length) (hx : X[j] = false) : putB X (j : Int) = true ∧ putL X (j : Int) = X.set j true := by
  have h1 : putB X (j : Int) = true := by rw [putB_nat hj, hx]; rfl
  exact ⟨h1, by unfold putL; rw [h1]; rfl⟩
theorem has_at {X : List Bool} {k : Int} (h : hasB X k = true) : ∃ K : Nat, k = K ∧ K < X.length := by
  have h0 : 0 ≤ k := by
    by_cases h0 : 0 ≤ k
    · exact h0
    · rw [hasB_neg (by omega)] at h; cases h
  obtain ⟨K, rfl⟩ := Int.eq_ofNat_of_zero_le h0
  refine ⟨K, rfl, ?_⟩
  by_cases hk : K < X.length
  · exact hk
  · rw [hasB_out (by omega)] at h; cases h
def giveV {α : Type} (z : α) (vs : List α) (X : List Bool) (k : Int) : List α := if hasB X k then vs.set k.toNat z else vs
def setV {α : Type} (vs : List α) (X : List Bool) (k : Int) (v : α) : List α := if hasB X k then vs.set k.toNat v else vs
def atV {α : Type} (z : α) (vs : List α) (X : List Bool) (k : Int) : α := if hasB X k then vs.getD k.toNat z else z
theorem dropLen (X : List Bool) (k : Int) : (dropL X k).length = X.length := by unfold dropL; split <;> simp
end
end Go.Proofs.YtaflekpfpdnbcaaDoor
