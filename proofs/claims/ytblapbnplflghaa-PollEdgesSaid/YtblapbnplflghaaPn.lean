/- Polls as they are made. No condition. -/
import Derived.Test.YtblapbnplflghaaPt
import Derived.Test.YtblapbnplflghaaMake
import Derived.Deep.RegionWith
namespace Go.Proofs.Ytblapbnplflghaa
open Go.RowKit
set_option linter.unusedVariables false
set_option linter.unusedSimpArgs false
set_option linter.unusedSectionVars false
set_option maxRecDepth 100000

def clampN (a : Int) : Nat := (max 0 (min a 64)).toNat
theorem clamp64 (w : World) (a : Int) : Calls Try.prog 25 #[.int .i64 a, .int .i64 0, .int .i64 64] w fun e w' => e = .returned (.int .i64 (clampN a)) ∧ w = w' := by
  have e : ((clampN a : Nat) : Int) = max 0 (min a 64) := by unfold clampN; omega
  rw [e]
  go_enter Try.func25, Try.ntmps25
  go_wp2
  all_goals
    go_ret
    rename_i hh
    refine ⟨?_, rfl⟩
    show Ending.returned (.int .i64 _) = Ending.returned (.int .i64 _)
    congr 2
    split at hh <;> omega
theorem infoGa : (Try.prog.info? 79).map (fun i => (i.zero, i.size, i.bytes)) = some (some (.agg #[.bool false, .int .i64 0, .int .i64 0, .int .u64 0, .int .i64 0, .int .i64 0, .int .i64 0]), 7, 56) := by kernel_rfl
theorem PoS.mk0 {W : World} {g B c q l L M t d mo cap : Nat} {T : List Th} (Q : QS W q l L M t d mo T) (b : BoxS W B c cap []) (hd : d ≤ 64) (hg : g < W.heap.size)
    (ga : ∀ i, i < d → ∀ j u, (#[Value.bool false, Value.int .i64 0, Value.int .i64 0, Value.int .u64 0, Value.int .i64 0, Value.int .i64 0, Value.int .i64 0] : Array Value)[j]? = some u → Cel W g (i * 7 + j) u)
    (h1 : g ≠ B ∧ g ≠ c ∧ g ≠ q ∧ g ≠ l ∧ g ≠ L ∧ g ≠ M) (h2 : B ≠ q ∧ B ≠ l ∧ B ≠ L ∧ B ≠ M) (h3 : c ≠ q ∧ c ≠ l ∧ c ≠ L ∧ c ≠ M) :
    PoS (W.alloc (.cells #[.slice (some ⟨g, 0, none⟩) d d, .pointer (some ⟨B, 0, none⟩), .pointer (some ⟨q, 0, none⟩), .int .i64 0] 69)) ⟨W.heap.size, g, B, c, q, l, L, M, d, cap, t, mo⟩ (List.replicate d noG) [] T 0 := by
  have F := blA (Below.refl W.heap.size W) (.cells #[.slice (some ⟨g, 0, none⟩) d d, .pointer (some ⟨B, 0, none⟩), .pointer (some ⟨q, 0, none⟩), .int .i64 0] 69)
  have lq := Q.lt; have lb := b.lt
  have cc : ∀ j u, (#[.slice (some ⟨g, 0, none⟩) d d, .pointer (some ⟨B, 0, none⟩), .pointer (some ⟨q, 0, none⟩), .int .i64 0] : Array Value)[j]? = some u → Cel (W.alloc (.cells #[.slice (some ⟨g, 0, none⟩) d d, .pointer (some ⟨B, 0, none⟩), .pointer (some ⟨q, 0, none⟩), .int .i64 0] 69)) W.heap.size j u := fun j u hu => Cel.new W _ _ j u hu
  refine ⟨cc 0 _ rfl, cc 1 _ rfl, cc 2 _ rfl, cc 3 _ rfl, fun i hi => ?_, by simp, b.below F, Q.below F, fun x hx => by simp at hx, hd, Nat.zero_le _, Nat.lt_of_lt_of_le hg F.size, ?_⟩
  · rw [List.length_replicate] at hi
    rw [List.getElem_replicate]
    exact ⟨(ga i hi 0 _ rfl).alloc _, (ga i hi 1 _ rfl).alloc _, (ga i hi 2 _ rfl).alloc _, (ga i hi 3 _ rfl).alloc _, (ga i hi 4 _ rfl).alloc _, (ga i hi 5 _ rfl).alloc _, (ga i hi 6 _ rfl).alloc _⟩
  · exact ⟨by simp only; omega, by simp only; omega, by simp only; omega, by simp only; omega, by simp only; omega, by simp only; omega, by simp only; omega, h1.1, h1.2.1, h1.2.2.1, h1.2.2.2.1, h1.2.2.2.2.1, h1.2.2.2.2.2, h2.1, h2.2.1, h2.2.2.1, h2.2.2.2, h3.1, h3.2.1, h3.2.2.1, h3.2.2.2⟩

/-- What is there behind the making. -/
structure NewP (w w' : World) (q l L M t d mo cap : Nat) (T : List Th) (p g B c : Nat) : Prop where
  S : PoS w' ⟨p, g, B, c, q, l, L, M, d, cap, t, mo⟩ (List.replicate d noG) [] T 0
  lo : w.heap.size ≤ p ∧ w.heap.size ≤ g ∧ w.heap.size ≤ B ∧ w.heap.size ≤ c
  F : Below w.heap.size w w'
theorem new_A {w w1 wb : World} {q l L M t d mo cap B c : Nat} {T : List Th} {Z : Array Value} (Q : QS w q l L M t d mo T) (hd : d ≤ 64) (e1 : w1 = (w.alloc (.cells Z 79)).drew)
    (zc : ∀ i, i < d → ∀ j u, (#[Value.bool false, Value.int .i64 0, Value.int .i64 0, Value.int .u64 0, Value.int .i64 0, Value.int .i64 0, Value.int .i64 0] : Array Value)[j]? = some u → Z[i * 7 + j]? = some u)
    (bS : BoxS wb B c cap []) (lB : w1.heap.size ≤ B) (lc : w1.heap.size ≤ c) (bF : Below w1.heap.size w1 wb) :
    NewP w (wb.alloc (.cells #[.slice (some ⟨w.heap.size, 0, none⟩) d d, .pointer (some ⟨B, 0, none⟩), .pointer (some ⟨q, 0, none⟩), .int .i64 0] 69)) q l L M t d mo cap T wb.heap.size w.heap.size B c := by
  have hs : w1.heap.size = w.heap.size + 1 := by rw [e1]; simp [World.drew]
  have B0 : Below w.heap.size w w1 := by rw [e1]; exact blD (blA (Below.refl _ _) _)
  have B1 : Below w.heap.size w wb := B0.trans (bF.mono (by omega))
  have lq := Q.lt; have sz := bF.size
  refine ⟨PoS.mk0 (Q.below B1) bS hd (by omega) (fun i hi j u hu => ?_) ⟨by omega, by omega, by omega, by omega, by omega, by omega⟩ ⟨by omega, by omega, by omega, by omega⟩ ⟨by omega, by omega, by omega, by omega⟩, ⟨by omega, Nat.le_refl _, by omega, by omega⟩, blA B1 _⟩
  have h1 : Cel w1 w.heap.size (i * 7 + j) u := by rw [e1]; exact (Cel.new w Z 79 _ _ (zc i hi j u hu)).drew
  exact h1.frb (FrB.of_below (S := fun _ => False) bF (Nat.le_refl _)) (fun h => h)
theorem new_B {w w1 wb : World} {q l L M t d mo cap B c : Nat} {T : List Th} {Z : Array Value} (Q : QS w q l L M t d mo T) (hd : d ≤ 64) (e1 : w1 = w.drew)
    (zc : ∀ i, i < d → ∀ j u, (#[Value.bool false, Value.int .i64 0, Value.int .i64 0, Value.int .u64 0, Value.int .i64 0, Value.int .i64 0, Value.int .i64 0] : Array Value)[j]? = some u → Z[i * 7 + j]? = some u)
    (bS : BoxS wb B c cap []) (lB : w1.heap.size ≤ B) (lc : w1.heap.size ≤ c) (bF : Below w1.heap.size w1 wb) :
    NewP w ((wb.alloc (.cells Z 79)).alloc (.cells #[.slice (some ⟨wb.heap.size, 0, none⟩) d d, .pointer (some ⟨B, 0, none⟩), .pointer (some ⟨q, 0, none⟩), .int .i64 0] 69)) q l L M t d mo cap T (wb.heap.size + 1) wb.heap.size B c := by
  have hs : w1.heap.size = w.heap.size := by rw [e1]; rfl
  have B0 : Below w.heap.size w w1 := by rw [e1]; exact blD (Below.refl _ _)
  have B1 : Below w.heap.size w wb := B0.trans (bF.mono (by omega))
  have B2 := blA B1 (.cells Z 79)
  have lq := Q.lt; have sz := bF.size; have lb := bS.lt
  have hs2 : (wb.alloc (.cells Z 79)).heap.size = wb.heap.size + 1 := by simp
  have := PoS.mk0 (W := wb.alloc (.cells Z 79)) (g := wb.heap.size) (Q.below B2) (bS.alloc (.cells Z 79)) hd (by omega) (fun i hi j u hu => Cel.new wb Z 79 _ _ (zc i hi j u hu)) ⟨by omega, by omega, by omega, by omega, by omega, by omega⟩ ⟨by omega, by omega, by omega, by omega⟩ ⟨by omega, by omega, by omega, by omega⟩
  rw [hs2] at this
  exact ⟨this, ⟨by omega, by omega, by omega, by omega⟩, blA B2 _⟩

set_option maxHeartbeats 8000000 in
theorem new_p {w : World} {q l L M t d mo : Nat} {T : List Th} (Q : QS w q l L M t d mo T) (devs notes : Int) (hd : d = clampN devs) {cap : Nat} (hc : cap = clampN notes) :
    Calls Try.prog 9 #[.int .i64 devs, .int .i64 notes, .pointer (some ⟨q, 0, none⟩)] w fun e w' => ∃ p g B c, e = .returned (.pointer (some ⟨p, 0, none⟩)) ∧ NewP w w' q l L M t d mo cap T p g B c := by
  have hd64 : d ≤ 64 := by rw [hd]; unfold clampN; omega
  have hc64 : cap ≤ 64 := by rw [hc]; unfold clampN; omega
  have cl1 := fun w => clamp64 w devs
  have cl2 := fun w => clamp64 w notes
  rw [← hd] at cl1
  rw [← hc] at cl2
  have bn := fun w => new_note w (cap : Int) (cap := cap) (by unfold capN; omega)
  obtain ⟨Z, s1, z1, k1⟩ := make_eq (t := 62) Try.underlying62 infoGa rfl rfl .i64 .i64 d (by omega) (by omega)
  have zc : ∀ i, i < d → ∀ j u, (#[Value.bool false, Value.int .i64 0, Value.int .i64 0, Value.int .u64 0, Value.int .i64 0, Value.int .i64 0, Value.int .i64 0] : Array Value)[j]? = some u → Z[i * 7 + j]? = some u := fun i hi j u hu => by
    have hj : j < 7 := (Array.getElem?_eq_some_iff.1 hu).1
    exact (z1 i j hi hj).trans hu
  have fA := fun (wb : World) (B c : Nat) (bS : BoxS wb B c cap []) lB lc bF => new_A (w1 := (w.alloc (.cells Z 79)).drew) (wb := wb) Q hd64 rfl zc bS lB lc bF
  have fB := fun (wb : World) (B c : Nat) (bS : BoxS wb B c cap []) lB lc bF => new_B (w1 := w.drew) (wb := wb) Q hd64 rfl zc bS lB lc bF
  replace fA := Lib.hid fA; replace fB := Lib.hid fB; replace zc := Lib.hid zc
  have QH := Lib.hid Q
  replace cl1 := Lib.hid cl1; replace cl2 := Lib.hid cl2; replace bn := Lib.hid bn; replace s1 := Lib.hid s1; replace z1 := Lib.hid z1
  clear Q hd hc
  go_enter Try.func9, Try.ntmps9
  go_wp2_with fail
  go_region_with (first | (go_at_call 25; (first | refine (cl1.out _).mono ?_ | refine (cl2.out _).mono ?_); rintro e w1 ⟨rfl, rfl⟩) | (go_at_call 26; refine (bn.out _).mono ?_; rintro e wb ⟨B, c, rfl, bS, lB, lc, bF⟩) | fail)
  all_goals
    go_wp2
    go_ret
    first
      | exact ⟨_, _, B, c, rfl, fA.out wb B c bS lB lc bF⟩
      | exact ⟨_, _, B, c, rfl, fB.out wb B c bS lB lc bF⟩
end Go.Proofs.Ytblapbnplflghaa
