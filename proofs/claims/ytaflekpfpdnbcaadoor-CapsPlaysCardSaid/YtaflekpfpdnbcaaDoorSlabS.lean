/- Slabs in memory: regions side by side. No condition. -/
import Derived.Test.YtaflekpfpdnbcaaDoorRegS
namespace Go.Proofs.YtaflekpfpdnbcaaDoor
open Go.RowKit
set_option linter.unusedVariables false
set_option linter.unusedSimpArgs false
set_option linter.unusedSectionVars false
set_option maxRecDepth 100000

/-- Where a region lies: its blocks are from lo on, and ahead of hi. -/
structure RD where
  r : Nat
  off : Nat
  n : Nat
  p : Nat
  g : Nat
  lo : Nat
  hi : Nat
deriving Inhabited
structure RD.Ok (base s b : Nat) (d : RD) : Prop where
  r : d.lo ≤ d.r ∧ d.r < d.hi
  p : d.lo ≤ d.p ∧ d.p < d.hi
  g : d.lo ≤ d.g ∧ d.g < d.hi
  b : b < d.lo
  s : s < d.lo
  base : base ≤ d.lo
section
variable {α : Type} {E : Enc α} {pE : Enc Nat}
/-- A slab: its variable s, its room in block b, its regions. -/
structure SlabS (E : Enc α) (pE : Enc Nat) (w : World) (base top s b : Nat) (ds : List RD) (st : List (List α × List Bool)) : Prop where
  cs : ∃ v, Cel w s 1 v ∧ OwnE pE w base v (ds.map RD.r) ∧ ∀ q, v.ownBlock = some q → q ≠ b ∧ q ≠ s ∧ (∀ d ∈ ds, q < d.lo ∨ d.hi ≤ q) ∧ q < top
  ok : ∀ d ∈ ds, d.Ok base s b
  ord : ds.Pairwise (fun d e => d.hi ≤ e.lo ∧ d.off + d.n * E.sz ≤ e.off)
  len : st.length = ds.length
  reg : ∀ (k : Nat) (d : RD) (x : List α × List Bool), ds[k]? = some d → st[k]? = some x → RegS E w d.r b d.off d.n d.p d.g x.1 x.2
  sb : base ≤ s ∧ base ≤ b ∧ s ≠ b
  tp : s < top ∧ b < top ∧ ∀ d ∈ ds, d.r < top ∧ d.p < top ∧ d.g < top
variable {w : World} {base top s b : Nat} {ds : List RD} {st : List (List α × List Bool)}
theorem SlabS.at (h : SlabS E pE w base top s b ds st) {k : Nat} (hk : k < ds.length) : RegS E w ds[k].r b ds[k].off ds[k].n ds[k].p ds[k].g (st[k]'(by rw [h.len]; exact hk)).1 (st[k]'(by rw [h.len]; exact hk)).2 :=
  h.reg k _ _ (List.getElem?_eq_getElem hk) (List.getElem?_eq_getElem _)
theorem SlabS.frc {S : Nat → Nat → Prop} {w' : World} (h : SlabS E pE w base top s b ds st) (F : FrC S w w') (hS : ∀ k o, base ≤ k → k < top → ¬ S k o) : SlabS E pE w' base top s b ds st := by
  obtain ⟨v, hv, hO, hq⟩ := h.cs
  refine ⟨⟨v, F.cel _ _ _ (hS _ _ h.sb.1 h.tp.1) hv, hO.block (fun k hk => F.block k (hO.lt k hk).2 (fun o => hS k o (hO.lt k hk).1 (hq k hk).2.2.2)), hq⟩, h.ok, h.ord, h.len, fun k d x hd hx => ?_, h.sb, h.tp⟩
  have ok := h.ok d (List.mem_of_getElem? hd)
  have tp := h.tp.2.2 d (List.mem_of_getElem? hd)
  refine (h.reg k d x hd hx).frc F (fun o => hS _ _ ?_ tp.1) (fun o => hS _ _ ?_ tp.2.1) (fun o => hS _ _ ?_ tp.2.2) (fun o _ _ => hS _ _ h.sb.2.1 h.tp.2.1)
  · have := ok.r; have := ok.base; omega
  · have := ok.p; have := ok.base; omega
  · have := ok.g; have := ok.base; omega
theorem SlabS.low {B : Nat} {w' : World} (h : SlabS E pE w base top s b ds st) (F : Below B w w') (hB : top ≤ B) (hw : B ≤ w.heap.size) : SlabS E pE w' base top s b ds st :=
  h.frc (FrC.of_low F hw) (fun k o _ h1 h2 => by omega)
theorem SlabS.below {w' : World} (h : SlabS E pE w base top s b ds st) (F : Below w.heap.size w w') : SlabS E pE w' base top s b ds st :=
  h.frc (FrC.of_below (S := fun _ _ => False) F (Nat.le_refl _)) (fun _ _ _ _ h => h)
theorem SlabS.drewN (h : SlabS E pE w base top s b ds st) (m : Nat) : SlabS E pE (w.drewN m) base top s b ds st :=
  h.frc ((FrC.refl (fun _ _ => False) w).drewN m) (fun _ _ _ _ h => h)
/-- A region has turned; the others are as they were. -/
theorem SlabS.turn {w' : World} (h : SlabS E pE w base top s b ds st) {k : Nat} {d : RD} (hd : ds[k]? = some d) {vs : List α} {X : List Bool} (R : RegS E w' d.r b d.off d.n d.p d.g vs X) (F : FrC (regF E b d.off d.n d.p d.g) w w') :
    SlabS E pE w' base top s b ds (st.set k (vs, X)) := by
  obtain ⟨v, hv, hO, hq⟩ := h.cs
  have okd := h.ok d (List.mem_of_getElem? hd)
  have hk : k < ds.length := (List.getElem?_eq_some_iff.1 hd).1
  refine ⟨⟨v, F.cel _ _ _ ?_ hv, hO.block (fun q hk => F.block q (hO.lt q hk).2 (fun o => ?_)), hq⟩, h.ok, h.ord, by rw [List.length_set]; exact h.len, fun j e x he hx => ?_, h.sb, h.tp⟩
  · rintro ((e | e) | e)
    · have := okd.p; have := okd.s; omega
    · have := okd.g; have := okd.s; omega
    · exact h.sb.2.2 e.1
  · obtain ⟨q1, q2, q3, -⟩ := hq q hk
    have q4 := q3 d (List.mem_of_getElem? hd)
    rintro ((e | e) | e)
    · have := okd.p; omega
    · have := okd.g; omega
    · exact q1 e.1
  · by_cases hjk : j = k
    · subst hjk
      rw [hd] at he
      injection he with he; subst he
      rw [List.getElem?_set_self (by rw [h.len]; exact hk)] at hx
      injection hx with hx; subst hx
      exact R
    · rw [List.getElem?_set_ne (fun e => hjk e.symm)] at hx
      have oke := h.ok e (List.mem_of_getElem? he)
      have hj : j < ds.length := (List.getElem?_eq_some_iff.1 he).1
      have ej : ds[j] = e := (List.getElem?_eq_some_iff.1 he).2
      have ek : ds[k] = d := (List.getElem?_eq_some_iff.1 hd).2
      have hor : (e.hi ≤ d.lo ∧ e.off + e.n * E.sz ≤ d.off) ∨ (d.hi ≤ e.lo ∧ d.off + d.n * E.sz ≤ e.off) := by
        rcases Nat.lt_or_gt_of_ne hjk with h1 | h1
        · have := List.pairwise_iff_getElem.1 h.ord j k hj hk h1
          rw [ej, ek] at this; exact .inl this
        · have := List.pairwise_iff_getElem.1 h.ord k j hk hj h1
          rw [ej, ek] at this; exact .inr this
      have a1 := okd.p; have a2 := okd.g; have a3 := okd.b; have a4 := oke.r; have a5 := oke.p; have a6 := oke.g; have a7 := oke.b
      have no : ∀ q, (e.lo ≤ q ∧ q < e.hi) → ∀ o, ¬ regF E b d.off d.n d.p d.g q o := by
        rintro q hq o ((e | e) | e)
        · omega
        · omega
        · have := e.1; omega
      refine (h.reg j e x he hx).frc F (no _ a4) (no _ a5) (no _ a6) (fun o o1 o2 => ?_)
      rintro ((c | c) | ⟨-, c1, c2⟩)
      · omega
      · omega
      · omega
theorem SlabS.other {w' : World} (h : SlabS E pE w base top s b ds st) {d : RD} (hd : d ∈ ds) (F : FrC (regF E b d.off d.n d.p d.g) w w') : Below base w w' ∨ w.heap.size < base := by
  rcases Nat.lt_or_ge w.heap.size base with h1 | h1
  · exact .inr h1
  refine .inl (F.below h1 (fun k o hk e => ?_))
  have okd := h.ok d hd
  rcases e with (e | e) | e
  · have := okd.p; have := okd.base; omega
  · have := okd.g; have := okd.base; omega
  · have := h.sb.2.1; have := e.1; omega
end
/-- A state that has one region, made since w. -/
structure OneR {α : Type} (E : Enc α) (w wr : World) (r b off n p g : Nat) (vs : List α) (X : List Bool) : Prop where
  R : RegS E wr r b off n p g vs X
  B : Below w.heap.size w wr
  T : Tab w
  lo : w.heap.size ≤ r ∧ w.heap.size ≤ p ∧ w.heap.size ≤ g ∧ w.heap.size ≤ b
  bl : b < wr.heap.size
section
variable {α : Type} {E : Enc α} {w wr w' : World} {r b off n p g : Nat} {vs vs' : List α} {X X' : List Bool}
theorem OneR.tab (h : OneR E w wr r b off n p g vs X) : Tab wr := h.T.below h.B
theorem OneR.turn (h : OneR E w wr r b off n p g vs X) (R : RegS E w' r b off n p g vs' X') (F : FrC (regF E b off n p g) wr w') : OneR E w w' r b off n p g vs' X' :=
  ⟨R, h.B.trans (F.below h.B.size (fun k o hk e => by
    obtain ⟨l1, l2, l3, l4⟩ := h.lo
    rcases e with (e | e) | e
    · omega
    · omega
    · have := e.1; omega)), h.T, h.lo, Nat.lt_of_lt_of_le h.bl F.size⟩
theorem OneR.below (h : OneR E w wr r b off n p g vs X) (F : Below wr.heap.size wr w') : OneR E w w' r b off n p g vs X := ⟨h.R.below F, h.B.trans (F.mono h.B.size), h.T, h.lo, Nat.lt_of_lt_of_le h.bl F.size⟩
theorem OneR.drewN (h : OneR E w wr r b off n p g vs X) (m : Nat) : OneR E w (wr.drewN m) r b off n p g vs X := h.below ⟨rfl, rfl, rfl, Nat.le_refl _, fun _ _ => rfl⟩
theorem OneR.drew (h : OneR E w wr r b off n p g vs X) : OneR E w wr.drew r b off n p g vs X := h.below ⟨rfl, rfl, rfl, Nat.le_refl _, fun _ _ => rfl⟩
end
/-- How many places a region has. -/
def capR (a : Int) : Nat := (max 0 (min a 256)).toNat
theorem capR_le (a : Int) : capR a ≤ 256 := by unfold capR; omega
theorem capB_capR (a : Int) : capB (capR a : Int) = capR a := by unfold capB capR; omega
def capsR (cs : List Int) : List Nat := (cs.take 64).map capR
end Go.Proofs.YtaflekpfpdnbcaaDoor
