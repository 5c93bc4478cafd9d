/- Maps from keys to numbers that a call makes: what they hold, their keys, their length. No condition. -/
import Derived.Test.YtaflekpfpdnbcaaDoorOwn
import Derived.Maps.OwnOps
import Derived.Maps.OwnSet
import Derived.Maps.Views
import Derived.StringKeys
namespace Go.Proofs.YtaflekpfpdnbcaaDoor
open Go.RowKit Go.Maps
set_option linter.unusedVariables false
set_option linter.unusedSimpArgs false
set_option maxRecDepth 100000
set_option linter.unusedSectionVars false

/-- How keys lie in a map. -/
structure KEnc (κ : Type) where
  kt : TypeId
  law : Keyed Tryd.prog kt
  lit : κ → Lit
  inj : ∀ x y, lit x = lit y → x = y
  isk : ∀ x, WideAt.IsKeyLit (lit x)

def kI : KEnc Int := ⟨3, int_keyed Tryd.underlying3, fun x => .int .i64 x, fun x y h => by injection h, fun x => trivial⟩
def kS : KEnc ByteArray := ⟨9, string_keyed Tryd.underlying9, fun x => .string x.data.toList, fun x y h => by
  injection h with h
  cases x; cases y
  simp at h
  simp [h], fun x => trivial⟩
theorem keyI {k : Int} (h : (Lit.int .i64 k).wf = true) : keyOf Tryd.prog kI.kt (.int .i64 k) = some (kI.lit k) := keyOf_int_mk Tryd.underlying3 h
theorem keyS {k : ByteArray} (h : k.size ≤ maxLen) : keyOf Tryd.prog kS.kt (.string k) = some (kS.lit k) := WideMaps.keyOf_string_mk Tryd.underlying9 h
theorem zeroI (w : World) : (zeroValue 3).run Tryd.prog w = .ok (.int .i64 0) w := by kernel_rfl

section
variable {κ : Type} [DecidableEq κ] {K : KEnc κ}

/-- Block b is a map; at k it holds f k (0 where there is no entry); its keys are ks. -/
def IsC (K : KEnc κ) (w : World) (b n : Nat) (f : κ → Int) (ks : List κ) : Prop :=
  ∃ D : DataW Unit, w.ownsMap Tryd.prog K.kt (plainElem Tryd.prog 3) b n D ∧ (∀ k, D.atKey (K.lit k) (.lit (.int .i64 0)) = .lit (.int .i64 (f k))) ∧ (∀ k, has D (K.lit k) = decide (k ∈ ks)) ∧ size D = ks.length

theorem IsC.made (w : World) : IsC K (w.alloc (.map #[] 0)) w.heap.size 0 (fun _ => 0) [] :=
  ⟨.map [], World.ownsMap_made _ _ _ _, fun k => rfl, fun k => by simp [has_eq], rfl⟩
theorem IsC.lt {w : World} {b n : Nat} {f : κ → Int} {ks : List κ} (h : IsC K w b n f ks) : b < w.heap.size := by
  obtain ⟨D, h1, _⟩ := h
  exact h1.lt
theorem IsC.block {w w' : World} {b n : Nat} {f : κ → Int} {ks : List κ} (h : IsC K w b n f ks) (hb : w'.heap[b]? = w.heap[b]?) : IsC K w' b n f ks := by
  obtain ⟨D, ⟨es, clock, h1, h2, h3, h4⟩, h5⟩ := h
  exact ⟨D, ⟨es, clock, hb.trans h1, h2, h3, h4⟩, h5⟩
theorem IsC.drewN {w : World} {b n : Nat} {f : κ → Int} {ks : List κ} (h : IsC K w b n f ks) (m : Nat) : IsC K (w.drewN m) b n f ks := h

def updC (f : κ → Int) (k : κ) (v : Int) : κ → Int := fun x => if x = k then v else f x
def addK (ks : List κ) (k : κ) : List κ := if k ∈ ks then ks else ks ++ [k]
theorem mem_addK {ks : List κ} {k x : κ} : x ∈ addK ks k ↔ x = k ∨ x ∈ ks := by
  unfold addK
  split
  · rename_i h
    constructor
    · exact .inr
    · rintro (rfl | h2)
      · exact h
      · exact h2
  · simp [or_comm]

theorem look_c {w : World} {ops : Array Oper} {rest : List Oper} {o : Oper} {a : Act} {Q : Exit → Act → World → Prop} {m x : Operand} {t : TypeId} {b n : Nat} {f : κ → Int} {ks : List κ} {k : κ} {kv : Value}
    (hg : o.guard = none) (hop : o.op = Op.lookup t m x false) (ht : Tryd.prog.underlying t = some (.map K.kt 3)) (hm : a.eval m = .map (some b)) (hown : IsC K w b n f ks) (hx : a.eval x = kv) (hk : keyOf Tryd.prog K.kt kv = some (K.lit k))
    (hK : wpList Tryd.prog ops Q rest (a.put o.dst (.int .i64 (f k))) w) : wpList Tryd.prog ops Q (o :: rest) a w := by
  obtain ⟨D, h1, h2, _⟩ := hown
  refine wpList_lookup_own_int w hg m x t hop K.kt 3 .i64 K.law ht Tryd.underlying3 (zeroI w) b n D hm h1 _ _ hx hk ?_
  intro c hc _
  rw [h2 k] at hc
  injection hc with hc
  injection hc with _ hc
  subst hc
  exact hK

theorem upd_c {w : World} {ops : Array Oper} {rest : List Oper} {o : Oper} {a : Act} {Q : Exit → Act → World → Prop} {m x v : Operand} {t : TypeId} {b n : Nat} {f : κ → Int} {ks : List κ} {k : κ} {kv : Value} {y : Int}
    (hg : o.guard = none) (hop : o.op = Op.mapUpdate t m x v) (ht : Tryd.prog.underlying t = some (.map K.kt 3)) (hm : a.eval m = .map (some b)) (hown : IsC K w b n f ks) (hn : n < 1000000000) (hx : a.eval x = kv) (hk : keyOf Tryd.prog K.kt kv = some (K.lit k))
    (hv : a.eval v = .int .i64 y) (hy : (Lit.int .i64 y).wf = true)
    (hK : ∀ w', IsC K w' b (n + 1) (updC f k y) (addK ks k) → w.grownBy w' (some b) → wpList Tryd.prog ops Q rest (a.put o.dst undef) w') : wpList Tryd.prog ops Q (o :: rest) a w := by
  obtain ⟨D, h1, h2, h3, h4⟩ := hown
  refine wpList_mapUpdate_own w hg m x v t hop K.kt 3 K.law ht (plainElem Tryd.prog 3) b n D hm h1 (by simp only [maxLen]; omega) _ _ _ hx hv hk _ [] (plainElem_int Tryd.underlying3 hy) ?_
  intro w' g1 g2
  have ht := h1.tidy K.law
  refine hK w' ⟨_, g1, fun z => ?_, fun z => ?_, ?_⟩ g2
  · unfold updC
    by_cases hz : z = k
    · subst hz
      rw [if_pos rfl, atKey_put_same h1.isMap (K.isk _)]
    · rw [if_neg hz, atKey_put_other (fun e => hz (K.inj _ _ e))]
      exact h2 z
  · by_cases hz : z = k
    · subst hz
      rw [has_put_same h1.isMap (K.isk _)]
      simp [mem_addK]
    · rw [has_put_other (fun e => hz (K.inj _ _ e)), h3 z]
      simp [mem_addK, hz]
  · rw [size_put ht, h3 k, h4]
    unfold addK
    by_cases hz : k ∈ ks <;> simp [hz]

/-- The look-up as an equation (for an operation that stands behind a guard, or in a region that draws). -/
theorem lookc_run {w : World} {b n : Nat} {f : κ → Int} {ks : List κ} {t : TypeId} {k : κ} {kv : Value} (hown : IsC K w b n f ks) (ht : Tryd.prog.underlying t = some (.map K.kt 3)) (hk : keyOf Tryd.prog K.kt kv = some (K.lit k)) :
    (Instr.lookup t (.map (some b)) kv false).run Tryd.prog w = .ok (.int .i64 (f k)) w := by
  obtain ⟨D, h1, h2, _⟩ := hown
  obtain ⟨c, hrun, hc, _⟩ := h1.lookup_int K.law ht Tryd.underlying3 (zeroI w) hk
  rw [h2 k] at hc
  injection hc with hc
  injection hc with _ hc
  subst hc
  exact hrun
/-- len(m) as an equation. -/
theorem lenc_run {w : World} {b n : Nat} {f : κ → Int} {ks : List κ} {t : TypeId} (hown : IsC K w b n f ks) (ht : Tryd.prog.underlying t = some (.map K.kt 3)) (ty : TypeId) :
    (Builtin.len_ #[t] ty #[.map (some b)]).run Tryd.prog w = .ok (.int .i64 ks.length) w := by
  obtain ⟨D, h1, _, _, h4⟩ := hown
  rw [h1.len ht ty, h4]
theorem len_c {w : World} {ops : Array Oper} {rest : List Oper} {o : Oper} {a : Act} {Q : Exit → Act → World → Prop} {m : Operand} {t : TypeId} {b n : Nat} {f : κ → Int} {ks : List κ}
    (hg : o.guard = none) (hop : o.op = Op.call { callee := Callee.builtin Builtin.len, args := #[m], argTypes := #[t] }) (ht : Tryd.prog.underlying t = some (.map K.kt 3)) (hm : a.eval m = .map (some b)) (hown : IsC K w b n f ks)
    (hK : wpList Tryd.prog ops Q rest (a.put o.dst (.int .i64 ks.length)) w) : wpList Tryd.prog ops Q (o :: rest) a w := by
  obtain ⟨D, h1, _, _, h4⟩ := hown
  refine wpList_len_own w hg m t hop K.kt 3 ht _ b n D hm h1 ?_
  rw [h4]
  exact hK
end
end Go.Proofs.YtaflekpfpdnbcaaDoor
