/- A tenant's handles in memory: a table is the document's. -/
import Derived.Test.YtaflekpfpdnbcaaDoorPk
import Derived.Test.YtaflekpfpdnbcaaDoorRegR
import Derived.Test.YtaflekpfpdnbcaaDoorMake
import Derived.Test.YtaflekpfpdnbcaaDoorOwnE
import Derived.Test.YtaflekpfpdnbcaaDoorSince
namespace Go.Proofs.YtaflekpfpdnbcaaDoor
open Go.RowKit
set_option linter.unusedVariables false
set_option linter.unusedSimpArgs false
set_option linter.unusedSectionVars false
set_option maxRecDepth 100000

/-- A place: how many handles it had so far; is one out, and what that one stands for. -/
structure Pc where
  gen : Nat
  is : Bool
  kind : Int
  index : Int
  rights : Nat
deriving Inhabited, DecidableEq
def Pc.row (x : Pc) : Rw := if x.is then ⟨x.gen, x.kind, x.index, x.rights⟩ else Rw.zero
def Pc.full (most : Nat) (x : Pc) : Bool := x.is || decide (most ≤ x.gen)
def Pc.dead (most : Nat) (x : Pc) : Bool := !x.is && decide (most ≤ x.gen)
def Pc.off (x : Pc) : Pc := ⟨x.gen, false, 0, 0, 0⟩
def Pc.new : Pc := ⟨0, false, 0, 0, 0⟩
structure Pc.Ok (most : Nat) (x : Pc) : Prop where
  gen : x.gen ≤ most
  is : x.is = true → 0 < x.gen ∧ x.rights < 256
abbrev vsP (P : List Pc) : List Rw := P.map Pc.row
abbrev xP (most : Nat) (P : List Pc) : List Bool := P.map (Pc.full most)
/-- A handle's bits. -/
def bitsP (i : Nat) (x : Pc) : Nat := x.gen * 16777216 + i * 256 + x.rights
/-- The place of a handle that is out. -/
def findP (P : List Pc) (h : Nat) : Option Nat :=
  if hs : h / 256 % 65536 < P.length then
    if P[h / 256 % 65536].is = true ∧ P[h / 256 % 65536].gen = h / 16777216 ∧ P[h / 256 % 65536].rights = h % 256 then some (h / 256 % 65536) else none
  else none
def minted (x : Pc) (kind index : Int) (rights : Nat) : Pc := ⟨x.gen + 1, true, kind, index, rights⟩
theorem findP_some {P : List Pc} {h i : Nat} (e : findP P h = some i) : i = h / 256 % 65536 ∧ ∃ hi : i < P.length, P[i].is = true ∧ P[i].gen = h / 16777216 ∧ P[i].rights = h % 256 := by
  unfold findP at e
  split at e
  · rename_i hs
    split at e
    · rename_i h2
      injection e with e
      subst e
      exact ⟨rfl, hs, h2⟩
    · cases e
  · cases e
/-- Where a table lies: its variable t, its region, its generations in block G. -/
structure TD where
  t : Nat
  r : Nat
  b : Nat
  off : Nat
  n : Nat
  p : Nat
  g : Nat
  G : Nat
deriving Inhabited
structure TD.Ok (T : TD) : Prop where
  t : T.t ≠ T.r ∧ T.t ≠ T.p ∧ T.t ≠ T.g ∧ T.t ≠ T.b ∧ T.t ≠ T.G
  G : T.G ≠ T.r ∧ T.G ≠ T.p ∧ T.G ≠ T.g ∧ T.G ≠ T.b
/-- What a table's steps may turn. -/
def TD.F (T : TD) : Nat → Nat → Prop := fun k o => regF rwE T.b T.off T.n T.p T.g k o ∨ (k = T.t ∨ k = T.G)
structure TabS (w : World) (T : TD) (P : List Pc) (most : Nat) : Prop where
  R : RegS rwE w T.r T.b T.off T.n T.p T.g (vsP P) (xP most P)
  c0 : Cel w T.t 0 (.pointer (some ⟨T.r, 0, none⟩))
  c1 : Cel w T.t 1 (.slice (some ⟨T.G, 0, none⟩) T.n T.n)
  c2 : Cel w T.t 2 (.int .i64 most)
  c3 : Cel w T.t 3 (.int .i64 (P.countP (Pc.dead most)))
  gc : ∀ i (h : i < P.length), Cel w T.G i (.int .i64 P[i].gen)
  gb : T.G < w.heap.size ∧ T.b < w.heap.size
  ok : T.Ok
  pc : ∀ x ∈ P, x.Ok most
  most : 1 ≤ most ∧ most ≤ 16777215
  n : T.n ≤ 256
  sh : ∃ ca, w.heap[T.t]? = some (.cells ca 76 (0, 0))
section
variable {w w' : World} {T : TD} {P : List Pc} {most : Nat}
theorem TabS.len (h : TabS w T P most) : P.length = T.n := by have := h.R.lv; rwa [List.length_map] at this
theorem TabS.frc {S : Nat → Nat → Prop} (h : TabS w T P most) (F : FrC S w w') (hS : ∀ k, k = T.t ∨ k = T.r ∨ k = T.b ∨ k = T.p ∨ k = T.g ∨ k = T.G → ∀ o, ¬ S k o) : TabS w' T P most := by
  have ht := hS T.t (.inl rfl)
  exact ⟨h.R.frc F (hS _ (by simp)) (hS _ (by simp)) (hS _ (by simp)) (fun o _ _ => hS T.b (by simp) o), F.cel _ _ _ (ht _) h.c0, F.cel _ _ _ (ht _) h.c1, F.cel _ _ _ (ht _) h.c2, F.cel _ _ _ (ht _) h.c3, fun i hi => F.cel _ _ _ (hS T.G (by simp) _) (h.gc i hi), ⟨Nat.lt_of_lt_of_le h.gb.1 F.size, Nat.lt_of_lt_of_le h.gb.2 F.size⟩, h.ok, h.pc, h.most, h.n, h.sh.imp fun ca e => (F.block T.t h.c0.lt ht).trans e⟩
theorem TabS.below (h : TabS w T P most) (F : Below w.heap.size w w') : TabS w' T P most := h.frc (FrC.of_below (S := fun _ _ => False) F (Nat.le_refl _)) (fun _ _ _ h => h)
theorem TabS.drew (h : TabS w T P most) : TabS w.drew T P most := h.below ⟨rfl, rfl, rfl, Nat.le_refl _, fun _ _ => rfl⟩
theorem TabS.drewN (h : TabS w T P most) (m : Nat) : TabS (w.drewN m) T P most := h.below ⟨rfl, rfl, rfl, Nat.le_refl _, fun _ _ => rfl⟩
theorem TabS.gens (h : TabS w T P most) {i : Nat} (hi : i < P.length) : P[i].gen ≤ most ∧ (P[i].is = true → 0 < P[i].gen ∧ P[i].rights < 256) := ⟨(h.pc _ (List.getElem_mem hi)).gen, (h.pc _ (List.getElem_mem hi)).is⟩
/-- The region has turned, the rest is as it was. -/
theorem regF_not {T : TD} (h : T.Ok) : (∀ o, ¬ regF rwE T.b T.off T.n T.p T.g T.t o) ∧ ∀ o, ¬ regF rwE T.b T.off T.n T.p T.g T.G o := by
  obtain ⟨⟨a1, a2, a3, a4, a5⟩, b1, b2, b3, b4⟩ := h
  constructor
  · rintro o ((e | e) | e)
    · exact a2 e
    · exact a3 e
    · exact a4 e.1
  · rintro o ((e | e) | e)
    · exact b2 e
    · exact b3 e
    · exact b4 e.1
theorem xP_at {i : Nat} (hi : i < P.length) : (xP most P)[i]'(by simpa using hi) = P[i].full most := by simp
theorem xP_get {i : Nat} : (xP most P).getD i false = (if h : i < P.length then P[i].full most else false) := by
  by_cases h : i < P.length
  · simp [h]
  · simp [h]
theorem hasP {i : Nat} (hi : i < P.length) : hasB (xP most P) (i : Int) = P[i].full most := by
  rw [hasB_nat (by simpa using hi)]; simp
theorem atP {i : Nat} (hi : i < P.length) (hf : P[i].full most = true) : atV Rw.zero (vsP P) (xP most P) (i : Int) = P[i].row := by
  unfold atV
  rw [hasP hi, if_pos hf]
  simp [hi]
theorem atP0 {i : Nat} (hi : i < P.length) (hf : P[i].full most = false) : atV Rw.zero (vsP P) (xP most P) (i : Int) = Rw.zero := by
  unfold atV
  rw [hasP hi, if_neg (by rw [hf]; decide)]
theorem vsP_set (i : Nat) (x : Pc) : vsP (P.set i x) = (vsP P).set i x.row := by simp [List.map_set]
theorem xP_set (i : Nat) (x : Pc) : xP most (P.set i x) = (xP most P).set i (x.full most) := by simp [List.map_set]
theorem countP_set {α : Type} (f : α → Bool) : ∀ (P : List α) (i : Nat) (hi : i < P.length) (x : α), (P.set i x).countP f + (if f P[i] then 1 else 0) = P.countP f + (if f x then 1 else 0)
  | a :: t, 0, _, x => by simp only [List.set_cons_zero, List.countP_cons, List.getElem_cons_zero]; omega
  | a :: t, i + 1, hi, x => by
    have := countP_set f t i (by simpa using hi) x
    simp only [List.set_cons_succ, List.countP_cons, List.getElem_cons_succ]
    omega
end
end Go.Proofs.YtaflekpfpdnbcaaDoor
