/- A map[int]int that the call makes, as a function. -/
import Derived.Test.YtamnibfaoikdbaaOwn
import Derived.Maps.OwnOps
import Derived.Maps.OwnSet
import Derived.Maps.Views
namespace Go.Proofs.Ytamnibfaoikdbaa
open Go.RowKit Go.Maps
set_option linter.unusedVariables false
set_option linter.unusedSimpArgs false

/-- Block b is a map of at most n entries; at k it holds f k (0 where there is no entry). -/
def IsM (w : World) (b n : Nat) (f : Int → Int) : Prop :=
  ∃ D : DataW Unit, w.ownsMap Try.prog 3 (plainElem Try.prog 3) b n D ∧ ∀ k, D.atKey (.int .i64 k) (.lit (.int .i64 0)) = .lit (.int .i64 (f k))

theorem mapLaw : Keyed Try.prog 3 := int_keyed Try.underlying3
theorem zero3 (w : World) : (zeroValue 3).run Try.prog w = .ok (.int .i64 0) w := by kernel_rfl

theorem IsM.made (w : World) : IsM (w.alloc (.map #[] 0)) w.heap.size 0 (fun _ => 0) :=
  ⟨.map [], World.ownsMap_made _ _ _ _, fun k => rfl⟩
theorem IsM.lt {w : World} {b n : Nat} {f : Int → Int} (h : IsM w b n f) : b < w.heap.size := by
  obtain ⟨D, h1, _⟩ := h
  exact h1.lt
theorem IsM.kept {w w' : World} {row : Option Nat} {b n : Nat} {f : Int → Int} (h : IsM w b n f) (hg : w.grownBy w' row) (hne : some b ≠ row) : IsM w' b n f := by
  obtain ⟨D, h1, h2⟩ := h
  exact ⟨D, h1.kept hg hne, h2⟩
theorem IsM.block {w w' : World} {b n : Nat} {f : Int → Int} (h : IsM w b n f) (hb : w'.heap[b]? = w.heap[b]?) : IsM w' b n f := by
  obtain ⟨D, ⟨es, clock, h1, h2, h3, h4⟩, h5⟩ := h
  exact ⟨D, ⟨es, clock, hb.trans h1, h2, h3, h4⟩, h5⟩
theorem IsM.alloc {w : World} {b n : Nat} {f : Int → Int} (h : IsM w b n f) (o : Obj) : IsM (w.alloc o) b n f := by
  obtain ⟨D, h1, h2⟩ := h
  exact ⟨D, h1.alloc o, h2⟩

def updF (f : Int → Int) (k v : Int) : Int → Int := fun x => if x = k then v else f x

theorem look_m {w : World} {ops : Array Oper} {rest : List Oper} {o : Oper} {a : Act} {Q : Exit → Act → World → Prop} {m x : Operand} {t : TypeId} {b n : Nat} {f : Int → Int} {k : Int}
    (hg : o.guard = none) (hop : o.op = Op.lookup t m x false) (ht : Try.prog.underlying t = some (.map 3 3)) (hm : a.eval m = .map (some b)) (hown : IsM w b n f) (hx : a.eval x = .int .i64 k) (hk : (Lit.int .i64 k).wf = true)
    (hK : wpList Try.prog ops Q rest (a.put o.dst (.int .i64 (f k))) w) : wpList Try.prog ops Q (o :: rest) a w := by
  obtain ⟨D, h1, h2⟩ := hown
  refine wpList_lookup_own_int w hg m x t hop 3 3 .i64 mapLaw ht Try.underlying3 (zero3 w) b n D hm h1 _ _ hx (keyOf_int_mk Try.underlying3 hk) ?_
  intro c hc _
  rw [h2 k] at hc
  injection hc with hc
  injection hc with _ hc
  subst hc
  exact hK

theorem upd_m {w : World} {ops : Array Oper} {rest : List Oper} {o : Oper} {a : Act} {Q : Exit → Act → World → Prop} {m x v : Operand} {t : TypeId} {b n : Nat} {f : Int → Int} {k y : Int}
    (hg : o.guard = none) (hop : o.op = Op.mapUpdate t m x v) (ht : Try.prog.underlying t = some (.map 3 3)) (hm : a.eval m = .map (some b)) (hown : IsM w b n f) (hn : n < 1000000000) (hx : a.eval x = .int .i64 k) (hk : (Lit.int .i64 k).wf = true)
    (hv : a.eval v = .int .i64 y) (hy : (Lit.int .i64 y).wf = true)
    (hK : ∀ w', IsM w' b (n + 1) (updF f k y) → w.grownBy w' (some b) → wpList Try.prog ops Q rest (a.put o.dst undef) w') : wpList Try.prog ops Q (o :: rest) a w := by
  obtain ⟨D, h1, h2⟩ := hown
  refine wpList_mapUpdate_own w hg m x v t hop 3 3 mapLaw ht (plainElem Try.prog 3) b n D hm h1 (by simp only [maxLen]; omega) _ _ _ hx hv (keyOf_int_mk Try.underlying3 hk) _ [] (plainElem_int Try.underlying3 hy) ?_
  intro w' g1 g2
  refine hK w' ⟨_, g1, fun z => ?_⟩ g2
  unfold updF
  by_cases hz : z = k
  · subst hz
    rw [if_pos rfl]
    exact atKey_put_same h1.isMap (by trivial) _ _
  · rw [if_neg hz, atKey_put_other (fun e => hz (by injection e)) _ _]
    exact h2 z

/-- The look-up as an equation (for an operation that stands behind a guard). -/
theorem look_run {w : World} {b n : Nat} {f : Int → Int} {t : TypeId} {k : Int} (hown : IsM w b n f) (ht : Try.prog.underlying t = some (.map 3 3)) (hk : (Lit.int .i64 k).wf = true) :
    (Instr.lookup t (.map (some b)) (.int .i64 k) false).run Try.prog w = .ok (.int .i64 (f k)) w := by
  obtain ⟨D, h1, h2⟩ := hown
  obtain ⟨c, hrun, hc, _⟩ := h1.lookup_int mapLaw ht Try.underlying3 (zero3 w) (keyOf_int_mk Try.underlying3 hk)
  rw [h2 k] at hc
  injection hc with hc
  injection hc with _ hc
  subst hc
  exact hrun
end Go.Proofs.Ytamnibfaoikdbaa
