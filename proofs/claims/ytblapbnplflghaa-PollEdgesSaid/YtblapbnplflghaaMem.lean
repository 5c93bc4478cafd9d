/- Plain facts about memory: what a call may have turned, cell by cell. No condition. -/
import Derived.WalkKit
import Derived.Below
import Derived.OneCell
import Derived.Deep.Draws
import Derived.Lib.Hide
namespace Go.Proofs.Ytblapbnplflghaa
open Go.RowKit
set_option linter.unusedVariables false
set_option linter.unusedSimpArgs false

/-- Between two worlds nothing that was there has turned but the cells of S. -/
structure Fr (S : Nat → Nat → Prop) (w w' : World) : Prop where
  os : w'.os = w.os
  tape : w'.tape = w.tape
  output : w'.output = w.output
  size : w.heap.size ≤ w'.heap.size
  block : ∀ k, k < w.heap.size → (∀ o, ¬ S k o) → w'.heap[k]? = w.heap[k]?
  cell : ∀ k o, k < w.heap.size → ¬ S k o → w'.cell? ⟨k, o, none⟩ = w.cell? ⟨k, o, none⟩
  frozen : ∀ k o, k < w.heap.size → w'.frozen? ⟨k, o, none⟩ = w.frozen? ⟨k, o, none⟩
  shape : ∀ k, k < w.heap.size → w'.shape? k = w.shape? k

theorem Fr.refl (S : Nat → Nat → Prop) (w : World) : Fr S w w := ⟨rfl, rfl, rfl, Nat.le_refl _, fun _ _ _ => rfl, fun _ _ _ _ => rfl, fun _ _ _ => rfl, fun _ _ => rfl⟩

theorem Fr.trans {S : Nat → Nat → Prop} {a b c : World} (h : Fr S a b) (k : Fr S b c) : Fr S a c :=
  ⟨k.os.trans h.os, k.tape.trans h.tape, k.output.trans h.output, Nat.le_trans h.size k.size,
   fun i hi hn => (k.block i (Nat.lt_of_lt_of_le hi h.size) hn).trans (h.block i hi hn),
   fun i o hi hn => (k.cell i o (Nat.lt_of_lt_of_le hi h.size) hn).trans (h.cell i o hi hn),
   fun i o hi => (k.frozen i o (Nat.lt_of_lt_of_le hi h.size)).trans (h.frozen i o hi),
   fun i hi => (k.shape i (Nat.lt_of_lt_of_le hi h.size)).trans (h.shape i hi)⟩

/-- Two steps, the second of which writes what the first may, or what is new since. -/
theorem Fr.then_ {S S2 : Nat → Nat → Prop} {a b c : World} (h : Fr S a b) (k : Fr S2 b c) (hs : ∀ i o, i < a.heap.size → S2 i o → S i o) : Fr S a c :=
  ⟨k.os.trans h.os, k.tape.trans h.tape, k.output.trans h.output, Nat.le_trans h.size k.size,
   fun i hi hn => (k.block i (Nat.lt_of_lt_of_le hi h.size) (fun o h2 => hn o (hs i o hi h2))).trans (h.block i hi hn),
   fun i o hi hn => (k.cell i o (Nat.lt_of_lt_of_le hi h.size) (fun h2 => hn (hs i o hi h2))).trans (h.cell i o hi hn),
   fun i o hi => (k.frozen i o (Nat.lt_of_lt_of_le hi h.size)).trans (h.frozen i o hi),
   fun i hi => (k.shape i (Nat.lt_of_lt_of_le hi h.size)).trans (h.shape i hi)⟩

theorem Fr.mono {S S' : Nat → Nat → Prop} {a b : World} (h : Fr S a b) (hs : ∀ i o, i < a.heap.size → S i o → S' i o) : Fr S' a b :=
  (Fr.refl S' a).then_ h hs

theorem Fr.drewN {S : Nat → Nat → Prop} {a b : World} (h : Fr S a b) (n : Nat) : Fr S a (b.drewN n) := ⟨h.os, h.tape, h.output, h.size, h.block, h.cell, h.frozen, h.shape⟩
theorem Fr.drew {S : Nat → Nat → Prop} {a b : World} (h : Fr S a b) : Fr S a b.drew := ⟨h.os, h.tape, h.output, h.size, h.block, h.cell, h.frozen, h.shape⟩

theorem shape?_of_block {w w' : World} {k : Nat} (h : w'.heap[k]? = w.heap[k]?) : w'.shape? k = w.shape? k := by unfold World.shape?; rw [h]

theorem Fr.alloc {S : Nat → Nat → Prop} {a b : World} (h : Fr S a b) (o : Obj) : Fr S a (b.alloc o) :=
  h.then_ (S2 := fun _ _ => False) ⟨rfl, rfl, rfl, by simp, fun k hk _ => Below.heap_alloc _ _ _ hk, fun k o' hk _ => World.cell?_of_block (Below.heap_alloc _ _ _ hk),
    fun k o' hk => World.frozen?_of_block (Below.heap_alloc _ _ _ hk), fun k hk => shape?_of_block (Below.heap_alloc _ _ _ hk)⟩ (fun _ _ _ h => h.elim)

theorem shape?_setCell (w : World) (a : Addr) (v : Value) (k : Nat) : (w.setCell a v).shape? k = w.shape? k := by
  simp only [World.setCell, World.shape?, Array.getElem?_modify]
  by_cases hb : a.block = k
  · simp only [hb, if_true]
    cases hh : w.heap[k]? with
    | none => simp
    | some x => cases x <;> simp <;> (split <;> simp)
  · simp [hb]

theorem Fr.setCell {S : Nat → Nat → Prop} {a b : World} (h : Fr S a b) {k o : Nat} (hs : k < a.heap.size → S k o) (u : Value) : Fr S a (b.setCell ⟨k, o, none⟩ u) := by
  refine h.then_ (S2 := fun i j => i = k ∧ j = o) ⟨rfl, rfl, rfl, by simp, fun i hi hn => Below.heap_setCell _ _ _ _ (fun e => hn o ⟨e, rfl⟩), fun i j hi hn => ?_, fun i j hi => World.frozen?_setCell _ _ _ _, fun i hi => shape?_setCell _ _ _ _⟩ (fun i j hi e => by obtain ⟨rfl, rfl⟩ := e; exact hs hi)
  exact World.cell?_setCell_other _ _ _ _ (fun e => hn (by injection e with e1 e2; exact ⟨e1.symm, e2.symm⟩))

theorem Fr.of_below {B : Nat} {S : Nat → Nat → Prop} {a b : World} (h : Below B a b) (hB : a.heap.size ≤ B) : Fr S a b :=
  ⟨h.os, h.tape, h.output, h.size, fun k hk _ => h.block k (by omega), fun k o hk _ => World.cell?_of_block (h.block k (by omega)), fun k o hk => World.frozen?_of_block (h.block k (by omega)), fun k hk => shape?_of_block (h.block k (by omega))⟩

theorem Fr.below {B : Nat} {S : Nat → Nat → Prop} {a b : World} (h : Fr S a b) (hB : B ≤ a.heap.size) (hs : ∀ k o, k < B → ¬ S k o) : Below B a b :=
  ⟨h.os, h.tape, h.output, h.size, fun k hk => h.block k (by omega) (fun o => hs k o hk)⟩

theorem Fr.below_of {B : Nat} {S : Nat → Nat → Prop} {w a b : World} (h0 : Below B w a) (h : Fr S a b) (hB : B ≤ a.heap.size) (hs : ∀ k o, k < B → ¬ S k o) : Below B w b :=
  h0.trans (h.below hB hs)

/-- n cells of block b from off on. -/
def cellsAt (b off n : Nat) : Nat → Nat → Prop := fun k o => k = b ∧ off ≤ o ∧ o < off + n
theorem cellsAt_mk {b off n o : Nat} (h1 : off ≤ o) (h2 : o < off + n) : cellsAt b off n b o := ⟨rfl, h1, h2⟩

/-- A cell holds a value, and may be written. -/
def Cel (w : World) (b o : Nat) (v : Value) : Prop := w.cell? ⟨b, o, none⟩ = some v ∧ w.frozen? ⟨b, o, none⟩ = false

theorem Cel.lt {w : World} {b o : Nat} {v : Value} (h : Cel w b o v) : b < w.heap.size := World.block_lt_of_cell? w _ h.1
theorem Cel.fr {S : Nat → Nat → Prop} {w w' : World} {b o : Nat} {v : Value} (h : Cel w b o v) (hF : Fr S w w') (hs : ¬ S b o) : Cel w' b o v :=
  ⟨(hF.cell b o h.lt hs).trans h.1, (hF.frozen b o h.lt).trans h.2⟩
theorem Cel.drewN {w : World} {b o : Nat} {v : Value} (h : Cel w b o v) (n : Nat) : Cel (w.drewN n) b o v := h
theorem Cel.drew {w : World} {b o : Nat} {v : Value} (h : Cel w b o v) : Cel w.drew b o v := h
theorem Cel.same {w : World} {b o : Nat} {v : Value} (h : Cel w b o v) (u : Value) : Cel (w.setCell ⟨b, o, none⟩ u) b o u :=
  ⟨World.cell?_setCell_same _ _ _ h.1, (World.frozen?_setCell _ _ _ _).trans h.2⟩
theorem Cel.other {w : World} {b o b' o' : Nat} {v : Value} (h : Cel w b o v) (hne : b' ≠ b ∨ o' ≠ o) (u : Value) : Cel (w.setCell ⟨b', o', none⟩ u) b o v :=
  ⟨(World.cell?_setCell_other _ _ _ _ (fun e => by injection e with e1 e2; rcases hne with h | h <;> exact absurd (by assumption) h)).trans h.1, (World.frozen?_setCell _ _ _ _).trans h.2⟩
theorem Cel.alloc {w : World} {b o : Nat} {v : Value} (h : Cel w b o v) (ob : Obj) : Cel (w.alloc ob) b o v :=
  ⟨(World.cell?_alloc_lt w ob _ h.lt).trans h.1, (World.frozen?_alloc_old w ob ⟨b, o, none⟩ (Nat.ne_of_lt h.lt)).trans h.2⟩
theorem Cel.new (w : World) (cs : Array Value) (t : TypeId) (o : Nat) (v : Value) (h : cs[o]? = some v) : Cel (w.alloc (.cells cs t)) w.heap.size o v :=
  ⟨(World.cell?_alloc_new w cs t o).trans h, World.frozen?_alloc_new w cs t o⟩

/-- Block b begins with these values, each of which may be written. -/
def Blk (w : World) (b : Nat) (vs : List Value) : Prop := b < w.heap.size ∧ ∀ j v, vs[j]? = some v → Cel w b j v
theorem Blk.at {w : World} {b : Nat} {vs : List Value} (h : Blk w b vs) (j : Nat) {v : Value} (hv : vs[j]? = some v) : w.cell? ⟨b, j, none⟩ = some v := (h.2 j v hv).1
theorem Blk.fr {S : Nat → Nat → Prop} {w w' : World} {b : Nat} {vs : List Value} (h : Blk w b vs) (hF : Fr S w w') (hs : ∀ o, ¬ S b o) : Blk w' b vs :=
  ⟨Nat.lt_of_lt_of_le h.1 hF.size, fun j v hv => (h.2 j v hv).fr hF (hs j)⟩
theorem Blk.alloc {w : World} {b : Nat} {vs : List Value} (h : Blk w b vs) (o : Obj) : Blk (w.alloc o) b vs :=
  ⟨by simp; have := h.1; omega, fun j v hv => (h.2 j v hv).alloc o⟩
theorem Blk.drew {w : World} {b : Nat} {vs : List Value} (h : Blk w b vs) : Blk w.drew b vs := h
theorem Blk.drewN {w : World} {b : Nat} {vs : List Value} (h : Blk w b vs) (n : Nat) : Blk (w.drewN n) b vs := h
theorem Blk.new (w : World) (vs : List Value) (t : TypeId) : Blk (w.alloc (.cells vs.toArray t)) w.heap.size vs :=
  ⟨by simp, fun j v hv => Cel.new w vs.toArray t j v (by simpa using hv)⟩
end Go.Proofs.Ytblapbnplflghaa
