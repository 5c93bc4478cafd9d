/- Slices of structs that a call makes and appends to. No condition. -/
import Derived.Test.YtblapbnplflghaaOwn
namespace Go.Proofs.Ytblapbnplflghaa
open Go.RowKit
set_option linter.unusedVariables false
set_option linter.unusedSimpArgs false
set_option maxRecDepth 100000

/-- How an element of a slice lies in memory. -/
structure Enc (α : Type) where
  t : TypeId
  sz : Nat
  f : α → List Value
  z : Value
  bytes : Nat
  len : ∀ x, (f x).length = sz
  one : ∀ x, ∀ v ∈ f x, v.oneCell' = true
  info : (Try.prog.info? t).map (fun i => (i.zero, i.size, i.bytes)) = some (some z, sz, bytes)
  zs : z.cells.size = sz
  pos : 0 < sz
  small : bytes ≤ 1000

/-- Between two worlds nothing that was there has turned but the blocks of S. -/
structure FrB (S : Nat → Prop) (w w' : World) : Prop where
  os : w'.os = w.os
  tape : w'.tape = w.tape
  output : w'.output = w.output
  size : w.heap.size ≤ w'.heap.size
  block : ∀ k, k < w.heap.size → ¬ S k → w'.heap[k]? = w.heap[k]?
theorem FrB.refl (S : Nat → Prop) (w : World) : FrB S w w := ⟨rfl, rfl, rfl, Nat.le_refl _, fun _ _ _ => rfl⟩
theorem FrB.then_ {S S2 : Nat → Prop} {a b c : World} (h : FrB S a b) (k : FrB S2 b c) (hs : ∀ i, i < a.heap.size → S2 i → S i) : FrB S a c :=
  ⟨k.os.trans h.os, k.tape.trans h.tape, k.output.trans h.output, Nat.le_trans h.size k.size,
   fun i hi hn => (k.block i (Nat.lt_of_lt_of_le hi h.size) (fun h2 => hn (hs i hi h2))).trans (h.block i hi hn)⟩
theorem FrB.of_below {B : Nat} {S : Nat → Prop} {a b : World} (h : Below B a b) (hB : a.heap.size ≤ B) : FrB S a b := ⟨h.os, h.tape, h.output, h.size, fun k hk _ => h.block k (by omega)⟩
theorem FrB.below {B : Nat} {S : Nat → Prop} {a b : World} (h : FrB S a b) (hB : B ≤ a.heap.size) (hs : ∀ k, k < B → ¬ S k) : Below B a b := ⟨h.os, h.tape, h.output, h.size, fun k hk => h.block k (by omega) (hs k hk)⟩
theorem FrB.grown {a b : World} {row : Option Nat} (h : a.grownBy b row) : FrB (fun k => row = some k) a b := ⟨h.1, h.2, h.3, h.4, fun k hk hn => h.5 k hk (fun e => hn e.symm)⟩
theorem FrB.set (a : World) (p : Addr) (v : Value) : FrB (fun k => k = p.block) a (a.setCell p v) := ⟨rfl, rfl, rfl, by simp, fun k hk hn => Below.heap_setCell _ _ _ _ (fun e => hn e)⟩
theorem FrB.alloc (S : Nat → Prop) (a : World) (o : Obj) : FrB S a (a.alloc o) := ⟨rfl, rfl, rfl, by simp, fun k hk _ => Below.heap_alloc _ _ _ hk⟩
theorem Cel.frb {S : Nat → Prop} {w w' : World} {b o : Nat} {v : Value} (h : Cel w b o v) (hF : FrB S w w') (hs : ¬ S b) : Cel w' b o v :=
  ⟨(World.cell?_of_block (hF.block b h.lt hs)).trans h.1, (World.frozen?_of_block (hF.block b h.lt hs)).trans h.2⟩

section
variable {α : Type} {E : Enc α}

def Enc.row (E : Enc α) (xs : List α) : List Value := xs.flatMap E.f
theorem Enc.row_length (xs : List α) : (E.row xs).length = xs.length * E.sz := by
  induction xs with
  | nil => simp [Enc.row]
  | cons x t ih =>
    have : E.row (x :: t) = E.f x ++ E.row t := by simp [Enc.row]
    rw [this, List.length_append, ih, E.len, List.length_cons, Nat.add_mul]; omega
theorem Enc.row_cons (x : α) (t : List α) : E.row (x :: t) = E.f x ++ E.row t := by simp [Enc.row]
theorem Enc.row_append (xs ys : List α) : E.row (xs ++ ys) = E.row xs ++ E.row ys := by simp [Enc.row]
theorem Enc.row_one (x : α) : E.row [x] = E.f x := by simp [Enc.row]
theorem Enc.row_at : ∀ (xs : List α) (i j : Nat) (hi : i < xs.length), j < E.sz → (E.row xs)[i * E.sz + j]? = (E.f xs[i])[j]?
  | [], i, j, hi, hj => absurd hi (by simp)
  | x :: t, 0, j, hi, hj => by
    rw [Enc.row_cons, Nat.zero_mul, Nat.zero_add, List.getElem?_append_left (by rw [E.len]; exact hj)]; rfl
  | x :: t, i + 1, j, hi, hj => by
    have h := Enc.row_at t i j (by simpa using hi) hj
    rw [Enc.row_cons, List.getElem?_append_right (by rw [E.len, Nat.add_mul]; omega), E.len]
    have e : (i + 1) * E.sz + j - E.sz = i * E.sz + j := by rw [Nat.add_mul]; omega
    rw [e, h]; rfl
theorem Enc.row_set : ∀ (xs : List α) (i j : Nat) (hi : i < xs.length) (y : α) (u : Value), j < E.sz → E.f y = (E.f xs[i]).set j u → E.row (xs.set i y) = (E.row xs).set (i * E.sz + j) u
  | [], i, j, hi, y, u, hj, hy => absurd hi (by simp)
  | x :: t, 0, j, hi, y, u, hj, hy => by
    rw [List.set_cons_zero, Enc.row_cons, Enc.row_cons, Nat.zero_mul, Nat.zero_add, List.set_append_left _ _ (by rw [E.len]; exact hj), hy]; rfl
  | x :: t, i + 1, j, hi, y, u, hj, hy => by
    have h := Enc.row_set t i j (by simpa using hi) y u hj hy
    rw [List.set_cons_succ, Enc.row_cons, Enc.row_cons, List.set_append_right _ _ (by rw [E.len, Nat.add_mul]; omega), E.len, h]
    have e : (i + 1) * E.sz + j - E.sz = i * E.sz + j := by rw [Nat.add_mul]; omega
    rw [e]

/-- A slice value v that owns a row of structs, in a block from base on (or is nil). -/
def OwnE (E : Enc α) (w : World) (base : Nat) (v : Value) (xs : List α) : Prop := w.ownsRow base E.t E.sz v xs.length (E.row xs)

theorem OwnE.nil (w : World) (base : Nat) : OwnE E w base (.slice none 0 0) [] := World.ownsRow_nil _ _ _ _
theorem OwnE.lt {w : World} {base : Nat} {v : Value} {xs : List α} (h : OwnE E w base v xs) : ∀ k, v.ownBlock = some k → base ≤ k ∧ k < w.heap.size := World.ownsRow.lt h
theorem OwnE.block {w w' : World} {base : Nat} {v : Value} {xs : List α} (h : OwnE E w base v xs) (hb : ∀ k, v.ownBlock = some k → w'.heap[k]? = w.heap[k]?) : OwnE E w' base v xs := by
  obtain ⟨h1, h2⟩ := h
  refine ⟨h1, ?_⟩
  rcases h2 with h2 | ⟨g, cap, cur, rfl, hg, hh, r⟩
  · exact .inl h2
  · exact .inr ⟨g, cap, cur, rfl, hg, (hb g rfl).trans hh, r⟩
theorem OwnE.fr {S : Nat → Nat → Prop} {w w' : World} {base : Nat} {v : Value} {xs : List α} (h : OwnE E w base v xs) (hF : Fr S w w') (hS : ∀ k o, v.ownBlock = some k → ¬ S k o) : OwnE E w' base v xs :=
  h.block fun k hk => hF.block k (h.lt k hk).2 (fun o => hS k o hk)
theorem OwnE.frb {S : Nat → Prop} {w w' : World} {base : Nat} {v : Value} {xs : List α} (h : OwnE E w base v xs) (hF : FrB S w w') (hS : ∀ k, v.ownBlock = some k → ¬ S k) : OwnE E w' base v xs :=
  h.block fun k hk => hF.block k (h.lt k hk).2 (hS k hk)
theorem OwnE.below {w w' : World} {base : Nat} {v : Value} {xs : List α} (h : OwnE E w base v xs) (hb : Below w.heap.size w w') : OwnE E w' base v xs :=
  h.block fun k hk => hb.block k (h.lt k hk).2
theorem OwnE.alloc {w : World} {base : Nat} {v : Value} {xs : List α} (h : OwnE E w base v xs) (o : Obj) : OwnE E (w.alloc o) base v xs := World.ownsRow.alloc h o
theorem OwnE.drewN {w : World} {base : Nat} {v : Value} {xs : List α} (h : OwnE E w base v xs) (n : Nat) : OwnE E (w.drewN n) base v xs := h
theorem OwnE.drew {w : World} {base : Nat} {v : Value} {xs : List α} (h : OwnE E w base v xs) : OwnE E w.drew base v xs := h
theorem OwnE.other {w : World} {base : Nat} {v : Value} {xs : List α} (h : OwnE E w base v xs) {a : Addr} (hne : v.ownBlock ≠ some a.block) (u : Value) : OwnE E (w.setCell a u) base v xs :=
  h.block fun k hk => Below.heap_setCell _ _ _ _ (fun e => hne (by rw [hk, e]))
theorem OwnE.mono {w : World} {base base' : Nat} {v : Value} {xs : List α} (h : OwnE E w base v xs) (hb : base' ≤ base) : OwnE E w base' v xs := by
  obtain ⟨h1, h2⟩ := h
  refine ⟨h1, ?_⟩
  rcases h2 with h2 | ⟨g, cap, cur, rfl, hg, r⟩
  · exact .inl h2
  · exact .inr ⟨g, cap, cur, rfl, Nat.le_trans hb hg, r⟩
theorem OwnE.up {w : World} {base base' : Nat} {v : Value} {xs : List α} (h : OwnE E w base v xs) (hb : ∀ k, v.ownBlock = some k → base' ≤ k) : OwnE E w base' v xs := by
  obtain ⟨h1, h2⟩ := h
  refine ⟨h1, ?_⟩
  rcases h2 with h2 | ⟨g, cap, cur, rfl, hg, r⟩
  · exact .inl h2
  · exact .inr ⟨g, cap, cur, rfl, hb g rfl, r⟩
theorem OwnE.slice {w : World} {base : Nat} {v : Value} {xs : List α} (h : OwnE E w base v xs) : (∃ A c, v = .slice A xs.length c ∧ xs.length ≤ c) := by
  rcases h.2 with ⟨rfl, h0⟩ | ⟨g, cap, cur, rfl, hg, hh, hn, _⟩
  · exact ⟨_, _, by rw [h0], by omega⟩
  · exact ⟨_, _, rfl, hn⟩
theorem OwnE.pos {w : World} {base : Nat} {v : Value} {xs : List α} (h : OwnE E w base v xs) (hp : 0 < xs.length) : ∃ g c, v = .slice (some ⟨g, 0, none⟩) xs.length c ∧ base ≤ g ∧ g < w.heap.size ∧ xs.length ≤ c := by
  rcases h.2 with ⟨rfl, h0⟩ | ⟨g, cap, cur, rfl, hg, hh, hn, _⟩
  · omega
  · exact ⟨_, _, rfl, hg, lt_of_block hh, hn⟩
theorem OwnE.cel {w : World} {base g n c i j : Nat} {xs : List α} {u : Value} (h : OwnE E w base (.slice (some ⟨g, 0, none⟩) n c) xs) (hi : i < xs.length) (hj : (E.f xs[i])[j]? = some u) : Cel w g (i * E.sz + j) u := by
  obtain ⟨A, c', e, _⟩ := h.slice
  injection e with e1 e2 e3
  subst e2
  have hj2 : j < E.sz := by
    apply Classical.byContradiction
    intro hh
    rw [List.getElem?_eq_none (by rw [E.len]; omega)] at hj; cases hj
  have hlt : i * E.sz + j < xs.length * E.sz := by
    have : (i + 1) * E.sz ≤ xs.length * E.sz := Nat.mul_le_mul_right _ hi
    rw [Nat.add_mul] at this; omega
  exact ⟨(World.ownsRow.cellAt h _ hlt).trans ((Enc.row_at xs i j hi hj2).trans hj), World.ownsRow.frozenAt h _⟩
theorem OwnE.row {w : World} {base n c : Nat} {A : Option Addr} {xs : List α} (h : OwnE E w base (.slice A n c) xs) : RowAt E.f E.sz w A xs ∧ n = xs.length := by
  refine ⟨fun i hi => ?_, ?_⟩
  · obtain ⟨g, c', e, h1, h2, h3⟩ := h.pos (by omega)
    injection e with e1 e2 e3
    subst e1
    exact ⟨g, 0, rfl, h2, fun j v hj => by rw [Nat.zero_add]; exact (h.cel hi hj).1⟩
  · obtain ⟨A', c', e, _⟩ := h.slice
    injection e
theorem OwnE.set {w : World} {base g n c i j : Nat} {xs : List α} {u : Value} {y : α} (h : OwnE E w base (.slice (some ⟨g, 0, none⟩) n c) xs) (hi : i < xs.length) (hj : j < E.sz) (hy : E.f y = (E.f xs[i]).set j u) :
    OwnE E (w.setCell ⟨g, i * E.sz + j, none⟩ u) base (.slice (some ⟨g, 0, none⟩) n c) (xs.set i y) := by
  obtain ⟨A, c', e, _⟩ := h.slice
  injection e with e1 e2 e3
  subst e2
  have := (World.ownsRow.stored h (i * E.sz + j) u).1
  unfold OwnE
  rw [List.length_set, Enc.row_set xs i j hi y u hj hy]
  exact this
theorem OwnE.lit (w : World) (base : Nat) (hb : base ≤ w.heap.size) (xs : List α) (cs : Array Value) (h : cs = (E.row xs).toArray) (hn : xs.length ≤ maxLen) : OwnE E (w.alloc (.cells cs E.t)) base (.slice (some ⟨w.heap.size, 0, none⟩) xs.length xs.length) xs := by
  subst h
  have := World.ownsRow_lit (base := base) (e := E.t) (size := E.sz) w (E.row xs).toArray xs.length hb hn (by simp [Enc.row_length])
  unfold OwnE
  simpa using this
theorem OwnE.beside {w w' : World} {b2 : Nat} {v1 v2 : Value} {ys : List α} (h : OwnE E w b2 v2 ys) (hg : w.grownBy w' v1.ownBlock) (hne : v1.ownBlock ≠ v2.ownBlock ∨ v1.ownBlock = none) : OwnE E w' b2 v2 ys :=
  h.block fun k hk => hg.5 k (h.lt k hk).2 (fun e => by
    rcases hne with h1 | h1
    · exact h1 (e.symm.trans hk.symm)
    · rw [h1] at e; cases e)
theorem grownE_below {w w' : World} {base : Nat} {v : Value} {xs : List α} (h : OwnE E w base v xs) (hg : w.grownBy w' v.ownBlock) (hb : base ≤ w.heap.size) : Below base w w' :=
  ⟨hg.1, hg.2, hg.3, hg.4, fun k hk => hg.5 k (by omega) (fun e => by have := h.lt k e.symm; omega)⟩

/-- append(s, x...) of a row that is there onto a row of the call's own; append(s, y) where its cells lie at a place. -/
theorem append_rowE {w : World} {ops : Array Oper} {rest : List Oper} {o : Oper} {a : Act} {Q : Exit → Act → World → Prop} {s x : Operand} {t : TypeId} {base n c : Nat} {A : Option Addr} {v : Value} {xs ys : List α}
    (hgd : o.guard = none) (ho : o.op = .call { callee := .builtin .append, args := #[s, x], argTypes := #[t, t] }) (ht : Try.prog.underlying t = some (.slice E.t))
    (hs : a.eval s = v) (hown : OwnE E w base v xs) (hx : a.eval x = .slice A n c) (hu : RowAt E.f E.sz w A ys) (hny : n = ys.length) (hn : xs.length ≤ 10000000) (hm : ys.length ≤ 10000000) (hb : base ≤ w.heap.size)
    (h : ∀ v' w', OwnE E w' base v' (xs ++ ys) → Below base w w' → w.grownBy w' v.ownBlock → (v'.ownBlock = v.ownBlock ∨ v'.ownBlock = some w.heap.size) → wpList Try.prog ops Q rest (a.put o.dst v') w') :
    wpList Try.prog ops Q (o :: rest) a w := by
  subst hny
  obtain ⟨i0, hi, hz0, hz1, hz2⟩ := info_parts E.info
  cases A with
  | none =>
    have : ys = [] := by
      cases ys with
      | nil => rfl
      | cons y t => obtain ⟨_, _, e, _⟩ := hu 0 (by simp); cases e
    subst this
    refine wpList_plain hgd fun K hK => ?_
    have hrun := run_append_none0 (w := w) base t o.type E.t i0 E.sz c ht hi v xs.length _ hown
    unfold Oper.wp
    simp [execOp, ho, resolve, invoke, builtin, hs, hx, hrun, Result.andThen]
    exact hK _ _ (h v w (by rw [List.append_nil]; exact hown) (Below.refl _ _) (World.grownBy.refl _ _) (.inl rfl))
  | some ad =>
    have hsm := E.small
    have hpos := E.pos
    refine wpList_append_own_at w hgd s x t ho base E.t i0 _ E.sz E.bytes ht hi hz0 hz1 hz2 E.zs E.pos v xs.length _ hs hown ad ys.length c (E.row ys) hx (Enc.row_length ys) ?_ ?_ (by simp only [maxLen]; omega) (by have := Nat.mul_le_mul (show xs.length + ys.length ≤ 20000000 by omega) hsm; omega) hb ?_
    · intro j u hj
      have hj2 : j < ys.length * E.sz := by
        apply Classical.byContradiction
        intro hh
        rw [List.getElem?_eq_none (by rw [Enc.row_length]; omega)] at hj; cases hj
      have e1 : j / E.sz * E.sz + j % E.sz = j := Nat.div_add_mod' j E.sz
      have e2 : j % E.sz < E.sz := Nat.mod_lt _ hpos
      have e3 : j / E.sz < ys.length := (Nat.div_lt_iff_lt_mul hpos).2 hj2
      rw [← e1, Enc.row_at ys _ _ e3 e2] at hj
      obtain ⟨b, off, e, _, hc⟩ := hu _ e3
      injection e with e
      subst e
      have e : (⟨b, off, none⟩ : Addr).add j = ⟨b, off + j, none⟩ := by unfold Addr.add; split <;> simp_all
      rw [e]
      have := hc _ _ hj
      rw [Nat.add_assoc, e1] at this
      exact this
    · intro u hu
      unfold Enc.row at hu
      rw [List.mem_flatMap] at hu
      obtain ⟨y, _, hy⟩ := hu
      exact E.one y u hy
    · intro v' w' h1 h2 h3 h4
      refine h v' w' ?_ (grownE_below hown h2 hb) h2 h4
      unfold OwnE
      rw [List.length_append, Enc.row_append]
      exact h1

theorem rowAt_one {w : World} {B : Nat} {y : α} (hB : B < w.heap.size) (h : ∀ j u, (E.f y)[j]? = some u → w.cell? ⟨B, j, none⟩ = some u) : RowAt E.f E.sz w (some ⟨B, 0, none⟩) [y] := by
  intro i hi
  obtain rfl : i = 0 := by simpa using hi
  exact ⟨B, 0, rfl, hB, fun j v hj => by simpa using h j v hj⟩
/-- A literal row: all cells at once in a new block. -/
theorem rowAt_new (w : World) (cs : Array Value) (t : TypeId) (xs : List α) (h : cs = (E.row xs).toArray) : RowAt E.f E.sz (w.alloc (.cells cs t)) (some ⟨w.heap.size, 0, none⟩) xs := by
  intro i hi
  refine ⟨w.heap.size, 0, rfl, by simp, fun j v hj => ?_⟩
  have hj2 : j < E.sz := by
    apply Classical.byContradiction
    intro hh
    rw [List.getElem?_eq_none (by rw [E.len]; omega)] at hj; cases hj
  subst h
  refine (Cel.new w _ t _ _ ?_).1
  rw [Nat.zero_add]
  simpa using (Enc.row_at xs i j hi hj2).trans hj
theorem rowAt_new1 {B : Nat} (w : World) (cs : Array Value) (t : TypeId) (y : α) (hB : B = w.heap.size) (h : cs = (E.f y).toArray) : RowAt E.f E.sz (w.alloc (.cells cs t)) (some ⟨B, 0, none⟩) [y] := by
  subst hB
  exact rowAt_new w cs t [y] (by rw [Enc.row_one]; exact h)
theorem rowAt_newB {B : Nat} (w : World) (cs : Array Value) (t : TypeId) (ys : List α) (hB : B = w.heap.size) (h : cs = (E.row ys).toArray) : RowAt E.f E.sz (w.alloc (.cells cs t)) (some ⟨B, 0, none⟩) ys := by
  subst hB
  exact rowAt_new w cs t ys h
theorem rowAt_alloc {w : World} {A : Option Addr} {ys : List α} (h : RowAt E.f E.sz w A ys) (o : Obj) : RowAt E.f E.sz (w.alloc o) A ys := h.below (Below.alloc (Below.refl _ _) (Nat.le_refl _) o)
theorem rowAt_nil (w : World) (A : Option Addr) : RowAt E.f E.sz w A [] := fun i hi => absurd hi (by simp)
theorem rowAt_drop {w : World} {b off : Nat} {xs : List α} (h : RowAt E.f E.sz w (some ⟨b, off, none⟩) xs) (k : Nat) : RowAt E.f E.sz w (some ⟨b, off + k * E.sz, none⟩) (xs.drop k) := by
  intro i hi
  have hi2 : k + i < xs.length := by simp at hi; omega
  obtain ⟨b', off', e, hlt, hc⟩ := h (k + i) hi2
  injection e with e
  injection e with e1 e2
  subst e1; subst e2
  refine ⟨b, _, rfl, hlt, fun j v hj => ?_⟩
  have := hc j v (by simpa using hj)
  rw [Nat.add_mul] at this
  rw [← this]
  congr 2; omega
end
end Go.Proofs.Ytblapbnplflghaa
