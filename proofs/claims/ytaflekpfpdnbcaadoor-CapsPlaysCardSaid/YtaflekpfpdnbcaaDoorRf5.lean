/- The document's tables: what is done with them. -/
import Derived.Test.YtaflekpfpdnbcaaDoorRe5
import Derived.Test.YtaflekpfpdnbcaaDoorSm5
import Derived.Test.YtaflekpfpdnbcaaDoorMake
import Derived.Laws.IdiomCopy
namespace Go.Proofs.YtaflekpfpdnbcaaDoor
open Go.RowKit
set_option linter.unusedVariables false
set_option linter.unusedSimpArgs false
set_option linter.unusedSectionVars false
set_option maxRecDepth 100000

def pcE : Enc Pc where
  t := 96
  sz := 5
  f := fun x => [.int .i64 x.gen, .bool x.is, .int .i64 x.kind, .int .i64 x.index, .int .i64 x.rights]
  z := .agg #[.int .i64 0, .bool false, .int .i64 0, .int .i64 0, .int .i64 0]
  bytes := 40
  len := fun x => rfl
  one := fun x v h => by
    simp only [List.mem_cons, List.mem_nil_iff, or_false] at h
    rcases h with h | h | h | h | h <;> (subst h; rfl)
  info := by kernel_rfl
  zs := rfl
  pos := by decide
  small := by decide
theorem RowAt.pc5 {w : World} {A : Option Addr} {P : List Pc} (h : RowAt pcE.f 5 w A P) {i : Nat} (hi : i < P.length) : ∃ b off, A = some ⟨b, off, none⟩ ∧ b < w.heap.size ∧ w.cell? ⟨b, off + i * 5, none⟩ = some (.int .i64 P[i].gen) ∧ w.cell? ⟨b, off + i * 5 + 1, none⟩ = some (.bool P[i].is) ∧ w.cell? ⟨b, off + i * 5 + 2, none⟩ = some (.int .i64 P[i].kind) ∧ w.cell? ⟨b, off + i * 5 + 3, none⟩ = some (.int .i64 P[i].index) ∧ w.cell? ⟨b, off + i * 5 + 4, none⟩ = some (.int .i64 P[i].rights) := by
  obtain ⟨b, off, e, hlt, hc⟩ := h i hi
  exact ⟨b, off, e, hlt, hc 0 _ rfl, hc 1 _ rfl, hc 2 _ rfl, hc 3 _ rfl, hc 4 _ rfl⟩
theorem infoPc : (Tryd.prog.info? 96).map (fun i => (i.zero, i.size, i.bytes)) = some (some (.agg #[.int .i64 0, .bool false, .int .i64 0, .int .i64 0, .int .i64 0]), 5, 40) := by kernel_rfl
theorem pcZ {Z : Array Value} {n : Nat} (s1 : Z.size = n * 5) (z1 : ∀ k f, k < n → f < 5 → Z[k * 5 + f]? = (#[Value.int .i64 0, Value.bool false, Value.int .i64 0, Value.int .i64 0, Value.int .i64 0] : Array Value)[f]?) : Z = (pcE.row (List.replicate n Pc.new)).toArray := by
  have hl := Enc.row_length (E := pcE) (List.replicate n Pc.new)
  rw [List.length_replicate] at hl
  apply Array.ext
  · rw [s1]; simp only [List.size_toArray]; rw [hl]; rfl
  · intro i h1 h2
    have hi : i < n * 5 := by rw [← s1]; exact h1
    have e : i = (i / 5) * 5 + i % 5 := by omega
    have hf : i % 5 < 5 := Nat.mod_lt _ (by decide)
    have hk : i / 5 < n := by omega
    have a1 := z1 (i / 5) (i % 5) hk hf
    rw [← e, Array.getElem?_eq_getElem h1] at a1
    have a2 := Enc.row_at (E := pcE) (List.replicate n Pc.new) (i / 5) (i % 5) (by rw [List.length_replicate]; exact hk) hf
    rw [show i / 5 * pcE.sz + i % 5 = i by show i / 5 * 5 + i % 5 = i; omega, List.getElem_replicate] at a2
    have a3 : (pcE.row (List.replicate n Pc.new)).toArray[i]? = some (pcE.row (List.replicate n Pc.new)).toArray[i] := Array.getElem?_eq_getElem h2
    rw [List.getElem?_toArray, a2] at a3
    have a4 : (pcE.f Pc.new)[i % 5]? = (#[Value.int .i64 0, Value.bool false, Value.int .i64 0, Value.int .i64 0, Value.int .i64 0] : Array Value)[i % 5]? := by
      have : i % 5 = 0 ∨ i % 5 = 1 ∨ i % 5 = 2 ∨ i % 5 = 3 ∨ i % 5 = 4 := by omega
      rcases this with h | h | h | h | h <;> rw [h] <;> rfl
    rw [a4, ← a1] at a3
    injection a3

set_option maxHeartbeats 4000000 in
theorem newD_c (w : World) (n : Nat) (hn : n ≤ 256) (gens : Int) :
    Calls Tryd.prog 26 #[.int .i64 n, .int .i64 gens] w fun e w' => ∃ A c, e = .returned (.agg #[.slice A n c, .int .i64 (mostP gens)]) ∧ OwnE pcE w' w.heap.size (.slice A n c) (List.replicate n Pc.new) ∧ Below w.heap.size w w' := by
  obtain ⟨Z, s1, z1, k1⟩ := make_eq (t := 63) Tryd.underlying63 infoPc rfl rfl .i64 .i64 n (by omega) (by omega)
  have hZ := pcZ s1 z1
  have FIN := Lib.hid (show ∀ W : World, W.heap.size = w.heap.size + 1 → Below w.heap.size w W → OwnE pcE (W.alloc (.cells Z 96)) w.heap.size (.slice (some ⟨w.heap.size + 1, 0, none⟩) n n) (List.replicate n Pc.new) ∧ Below w.heap.size w (W.alloc (.cells Z 96)) from fun W hs hB => by
    have O := OwnE.lit (E := pcE) W w.heap.size (by omega) (List.replicate n Pc.new) Z hZ (by rw [List.length_replicate]; simp only [maxLen]; omega)
    rw [List.length_replicate, hs] at O
    exact ⟨O, blA hB _⟩)
  have hh := Lib.hid hn
  have hm : (gens < 1 ∧ mostP gens = 1) ∨ (¬ gens < 1 ∧ 16777215 < gens ∧ mostP gens = 16777215) ∨ (¬ gens < 1 ∧ ¬ 16777215 < gens ∧ ((mostP gens : Nat) : Int) = gens) := by
    unfold mostP; omega
  clear hZ s1 z1
  have fin2 := fun u : Value => fun v : Value => FIN.out (w.alloc (.cells #[u, v] 65)) (by simp) (blA (Below.refl _ _) _)
  replace fin2 := Lib.hid fin2
  rcases hm with ⟨h1, h2⟩ | ⟨h1, h2, h3⟩ | ⟨h1, h2, h3⟩
  · have d1 : decide (gens < 1) = true := decide_eq_true h1
    rw [h2]
    clear h1 h2
    go_enter Tryd.func26, Tryd.ntmps26
    go_wp2
    refine bodyPost_ret (v := .agg #[.slice (some ⟨w.heap.size + 1, 0, none⟩) n n, .int .i64 1]) ?hres rfl ?hend
    case hend => exact ⟨_, _, rfl, fin2.out _ _⟩
    case hres => simp [results, Tryd.results26, go_sem, *]
  · have d1 : decide (gens < 1) = false := decide_eq_false h1
    have d2 : decide (16777215 < gens) = true := decide_eq_true h2
    rw [h3]
    clear h1 h2 h3
    go_enter Tryd.func26, Tryd.ntmps26
    go_wp2
    refine bodyPost_ret (v := .agg #[.slice (some ⟨w.heap.size + 1, 0, none⟩) n n, .int .i64 16777215]) ?hres rfl ?hend
    case hend => exact ⟨_, _, rfl, fin2.out _ _⟩
    case hres => simp [results, Tryd.results26, go_sem, *]
  · have d1 : decide (gens < 1) = false := decide_eq_false h1
    have d2 : decide (16777215 < gens) = false := decide_eq_false h2
    rw [h3]
    clear h1 h2 h3
    go_enter Tryd.func26, Tryd.ntmps26
    go_wp2
    refine bodyPost_ret (v := .agg #[.slice (some ⟨w.heap.size + 1, 0, none⟩) n n, .int .i64 gens]) ?hres rfl ?hend
    case hend => exact ⟨_, _, rfl, fin2.out _ _⟩
    case hres => simp [results, Tryd.results26, go_sem, *]

/-- A place's handle, where one is out. -/
theorem findR {P : List Pc} {most : Nat} (hp : ∀ x ∈ P, x.Ok most) (hm : most ≤ 16777215) (hl : P.length ≤ 256) {i : Nat} (hi : i < P.length) (his : P[i].is = true) (h : Nat) : bitsP i P[i] = h ↔ findP P h = some i := by
  have ok := hp _ (List.getElem_mem hi)
  have hg := ok.gen
  have hr := (ok.is his).2
  unfold bitsP
  constructor
  · intro e
    unfold findP
    have e1 : h / 256 % 65536 = i := by omega
    rw [dif_pos (by rw [e1]; exact hi), if_pos, e1]
    simp only [e1]
    exact ⟨his, by omega, by omega⟩
  · intro e
    obtain ⟨e1, _, _, h2, h3⟩ := findP_some e
    omega
end Go.Proofs.YtaflekpfpdnbcaaDoor
