/- BoxPlays: the state. No condition. -/
import Derived.Test.YtkpiphihmmhhpaaBrf
import Derived.Test.YtkpiphihmmhhpaaSince
namespace Go.Proofs.Ytkpiphihmmhhpaa
open Go.RowKit
set_option linter.unusedVariables false
set_option linter.unusedSimpArgs false
set_option maxRecDepth 100000

/-- Two boxes (P, Q wait there) and the document's rows X, Y, in a variable V. -/
structure PlB (w wr : World) (V B c B2 c2 n m E : Nat) (vx vy : Value) (P Q X Y : List Int) : Prop where
  t : TwoB w wr B c n (P.map (Value.int .i64)) B2 c2 m (Q.map (Value.int .i64))
  b0 : Cel wr V 0 (.pointer (some ⟨B, 0, none⟩))
  b1 : Cel wr V 1 (.pointer (some ⟨B2, 0, none⟩))
  b2 : Cel wr V 2 vx
  b3 : Cel wr V 3 vy
  b4 : Cel wr V 4 (.int .i64 n)
  b5 : Cel wr V 5 (.int .i64 m)
  x : RowS wr E vx X
  y : RowS wr E vy Y
  e : (B < E ∧ c < E) ∧ (B2 < E ∧ c2 < E) ∧ V < E ∧ w.heap.size ≤ V ∧ w.heap.size ≤ E ∧ E ≤ wr.heap.size
  ne : (V ≠ B ∧ V ≠ c) ∧ V ≠ B2 ∧ V ≠ c2
section
variable {w wr w2 : World} {V B c B2 c2 n m E : Nat} {vx vy : Value} {P Q X Y : List Int}
theorem Cel.frb' {w w' : World} {b o : Nat} {v : Value} (h : Cel w b o v) (hb : Below w.heap.size w w') : Cel w' b o v := h.frb (FrB.of_below (S := fun _ => False) hb (Nat.le_refl _)) (fun h => h)
theorem PlB.below (h : PlB w wr V B c B2 c2 n m E vx vy P Q X Y) (F : Below wr.heap.size wr w2) : PlB w w2 V B c B2 c2 n m E vx vy P Q X Y :=
  ⟨h.t.below F, h.b0.frb' F, h.b1.frb' F, h.b2.frb' F, h.b3.frb' F, h.b4.frb' F, h.b5.frb' F, h.x.below F, h.y.below F, by have := h.e; have := F.size; omega, h.ne⟩
theorem PlB.drewN (h : PlB w wr V B c B2 c2 n m E vx vy P Q X Y) (k : Nat) : PlB w (wr.drewN k) V B c B2 c2 n m E vx vy P Q X Y := h.below (blN (Below.refl _ _) k)
theorem PlB.opA {P' : List Int} (h : PlB w wr V B c B2 c2 n m E vx vy P Q X Y) (K : BoxS w2 B c n (P'.map (Value.int .i64))) (F : FrB (fun k => k = c) wr w2) : PlB w w2 V B c B2 c2 n m E vx vy P' Q X Y :=
  ⟨h.t.opA K F, h.b0.frb F h.ne.1.2, h.b1.frb F h.ne.1.2, h.b2.frb F h.ne.1.2, h.b3.frb F h.ne.1.2, h.b4.frb F h.ne.1.2, h.b5.frb F h.ne.1.2, h.x.frb F (fun k hk e => by have := h.e; omega), h.y.frb F (fun k hk e => by have := h.e; omega), by have := h.e; have := F.size; omega, h.ne⟩
theorem PlB.opB {Q' : List Int} (h : PlB w wr V B c B2 c2 n m E vx vy P Q X Y) (K : BoxS w2 B2 c2 m (Q'.map (Value.int .i64))) (F : FrB (fun k => k = c2) wr w2) : PlB w w2 V B c B2 c2 n m E vx vy P Q' X Y :=
  ⟨h.t.opB K F, h.b0.frb F h.ne.2.2, h.b1.frb F h.ne.2.2, h.b2.frb F h.ne.2.2, h.b3.frb F h.ne.2.2, h.b4.frb F h.ne.2.2, h.b5.frb F h.ne.2.2, h.x.frb F (fun k hk e => by have := h.e; omega), h.y.frb F (fun k hk e => by have := h.e; omega), by have := h.e; have := F.size; omega, h.ne⟩
theorem TwoB.setc {cap cap2 o : Nat} {buf buf2 : List Value} (h : TwoB w wr B c cap buf B2 c2 cap2 buf2) (hn : (V ≠ B ∧ V ≠ c) ∧ V ≠ B2 ∧ V ≠ c2) (hw : w.heap.size ≤ V) (u : Value) : TwoB w (wr.setCell ⟨V, o, none⟩ u) B c cap buf B2 c2 cap2 buf2 :=
  ⟨⟨h.a.s.setc hn.1.1 hn.1.2 u, h.a.lo, blS h.a.b hw u⟩, ⟨h.b.s.setc hn.2.1 hn.2.2 u, h.b.lo, blS h.b.b hw u⟩, h.ne⟩
theorem PlB.putX {v' : Value} {X' : List Int} (h : PlB w wr V B c B2 c2 n m E vx vy P Q X Y) (r : RowS wr E v' X') : PlB w (wr.setCell ⟨V, 2, none⟩ v') V B c B2 c2 n m E v' vy P Q X' Y :=
  ⟨h.t.setc h.ne h.e.2.2.2.1 _, h.b0.other (.inr (by decide)) _, h.b1.other (.inr (by decide)) _, h.b2.same _, h.b3.other (.inr (by decide)) _, h.b4.other (.inr (by decide)) _, h.b5.other (.inr (by decide)) _, r.frb (FrB.set _ _ _) (fun k hk e => by have := h.e; simp only at e; omega), h.y.frb (FrB.set _ _ _) (fun k hk e => by have := h.e; simp only at e; omega), by have := h.e; simp only [World.size_setCell]; omega, h.ne⟩
theorem PlB.putY {v' : Value} {Y' : List Int} (h : PlB w wr V B c B2 c2 n m E vx vy P Q X Y) (r : RowS wr E v' Y') : PlB w (wr.setCell ⟨V, 3, none⟩ v') V B c B2 c2 n m E vx v' P Q X Y' :=
  ⟨h.t.setc h.ne h.e.2.2.2.1 _, h.b0.other (.inr (by decide)) _, h.b1.other (.inr (by decide)) _, h.b2.other (.inr (by decide)) _, h.b3.same _, h.b4.other (.inr (by decide)) _, h.b5.other (.inr (by decide)) _, h.x.frb (FrB.set _ _ _) (fun k hk e => by have := h.e; simp only at e; omega), r.frb (FrB.set _ _ _) (fun k hk e => by have := h.e; simp only at e; omega), by have := h.e; simp only [World.size_setCell]; omega, h.ne⟩
theorem PlB.lenP (h : PlB w wr V B c B2 c2 n m E vx vy P Q X Y) : P.length ≤ n ∧ n ≤ 4096 := by have := h.t.a.s.le; rw [List.length_map] at this; omega
theorem PlB.lenQ (h : PlB w wr V B c B2 c2 n m E vx vy P Q X Y) : Q.length ≤ m ∧ m ≤ 4096 := by have := h.t.b.s.le; rw [List.length_map] at this; omega
end
/-- A step's variable. -/
def OpV (w : World) (M : Nat) (k y : Int) (o : Bool) : Prop := Cel w M 0 (.int .i64 k) ∧ Cel w M 1 (.int .i64 y) ∧ Cel w M 2 (.bool o)
theorem OpV.below {w w2 : World} {M : Nat} {k y : Int} {o : Bool} (h : OpV w M k y o) (F : Below w.heap.size w w2) : OpV w2 M k y o := ⟨h.1.frb' F, h.2.1.frb' F, h.2.2.frb' F⟩
theorem OpV.frb {S : Nat → Prop} {w w2 : World} {M : Nat} {k y : Int} {o : Bool} (h : OpV w M k y o) (F : FrB S w w2) (hs : ¬ S M) : OpV w2 M k y o := ⟨h.1.frb F hs, h.2.1.frb F hs, h.2.2.frb F hs⟩
theorem OpV.set {w : World} {M V i : Nat} {k y : Int} {o : Bool} (h : OpV w M k y o) (hn : V ≠ M) (u : Value) : OpV (w.setCell ⟨V, i, none⟩ u) M k y o := ⟨h.1.other (.inl hn) _, h.2.1.other (.inl hn) _, h.2.2.other (.inl hn) _⟩
end Go.Proofs.Ytkpiphihmmhhpaa
