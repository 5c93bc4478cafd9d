/- The document's lists: Push, Pull, New. -/
import Derived.Test.YtdgcppglpmlgkaaRef04
import Derived.Test.YtdgcppglpmlgkaaOpC
namespace Go.Proofs.Ytdgcppglpmlgkaa
open Go.RowKit
set_option linter.unusedVariables false
set_option linter.unusedSimpArgs false

def rowsOf (m : Nat) (R : Nat → List Nat) : List (List Int) := (List.range m).map fun i => natsI (R i)
theorem rowsOf_len (m : Nat) (R : Nat → List Nat) : (rowsOf m R).length = m := by simp [rowsOf]
theorem rowsOf_get {m : Nat} {R : Nat → List Nat} {i : Nat} (h : i < (rowsOf m R).length) : (rowsOf m R)[i] = natsI (R i) := by simp [rowsOf]
theorem rowsOf_set {m : Nat} {R : Nat → List Nat} {j : Nat} {l : List Nat} : (rowsOf m R).set j (natsI l) = rowsOf m (updR R j l) := by
  apply List.ext_getElem
  · simp [rowsOf]
  · intro i h1 h2
    by_cases e : j = i
    · subst e; simp [rowsOf, updR]
    · rw [List.getElem_set_ne e]; simp [rowsOf, updR]; rw [if_neg (fun h => e h.symm)]
theorem mem_natsI {k : Int} {l : List Nat} : k ∈ natsI l ↔ 0 ≤ k ∧ k.toNat ∈ l := by
  unfold natsI
  constructor
  · intro h
    obtain ⟨x, hx, rfl⟩ := List.mem_map.1 h
    exact ⟨Int.natCast_nonneg x, by simpa using hx⟩
  · rintro ⟨h0, h⟩
    refine List.mem_map.2 ⟨k.toNat, h, ?_⟩
    simp; omega
/-- What the document's On tells. -/
theorem on4_spec {m : Nat} {R : Nat → List Nat} {k v : Int} (h : OnSpec (rowsOf m R) k v) (hu : ∀ i j x, x ∈ R i → x ∈ R j → i = j) :
    (onB m R k = true ∧ v = onAt m R k.toNat ∧ onAt m R k.toNat < m ∧ k.toNat ∈ R (onAt m R k.toNat)) ∨ (onB m R k = false ∧ v = -1) := by
  rcases h with ⟨i, hi, rfl, hm⟩ | ⟨rfl, hn⟩
  · left
    rw [rowsOf_get, mem_natsI] at hm
    rw [rowsOf_len] at hi
    have h1 : isOn m R k.toNat = true := isOn_iff.2 ⟨i, hi, hm.2⟩
    have h2 : onAt m R k.toNat = i := by
      unfold onAt
      cases hf : (List.range m).find? fun i => decide (k.toNat ∈ R i) with
      | none =>
        rw [List.find?_eq_none] at hf
        have := hf i (by simpa using hi)
        simp [hm.2] at this
      | some a =>
        have h1 := List.find?_some hf
        simp at h1
        exact hu a i _ h1 hm.2
    exact ⟨by unfold onB; simp [hm.1, h1], by rw [h2], by rw [h2]; exact hi, by rw [h2]; exact hm.2⟩
  · right
    refine ⟨?_, rfl⟩
    unfold onB
    by_cases h0 : 0 ≤ k
    · have : isOn m R k.toNat = false := by
        rw [Bool.eq_false_iff]
        intro ht
        obtain ⟨i, hi, hm⟩ := isOn_iff.1 ht
        refine hn (natsI (R i)) ?_ (mem_natsI.2 ⟨h0, hm⟩)
        exact List.mem_map.2 ⟨i, by simpa using hi, rfl⟩
      simp [this]
    · simp [h0]

theorem rows_len {m : Nat} {R : Nat → List Nat} (h : ∀ i, (R i).length ≤ 8192) : ∀ r ∈ rowsOf m R, r.length ≤ 1000000 := by
  intro r hr
  obtain ⟨i, _, rfl⟩ := List.mem_map.1 hr
  have := h i
  simp [natsI]; omega

abbrev LV (n : Int) (A : Option Addr) (m c : Nat) : Value := .agg #[.int .i64 n, .slice A m c]

theorem natsI_snoc' (l : List Nat) (k : Nat) : natsI l ++ [(k : Int)] = natsI (l ++ [k]) := by simp [natsI]
theorem take_snoc' {α : Type} {l : List α} {i : Nat} (h : i < l.length) : l.take (i + 1) = l.take i ++ [l[i]] := by
  rw [List.take_add_one]; simp [h]
set_option maxRecDepth 100000 in
set_option maxHeartbeats 2000000 in
theorem push4_no0 {avd : Nat → Prop} {w : World} {A : Option Addr} {R : Nat → List Nat} {n m c : Nat} (hr : RowsAt avd w A (rowsOf m R)) (hlo : ∀ b, w.heap.size ≤ b → ¬ avd b) (hm : m ≤ 8192) (hn : n ≤ 8192) (hl : ∀ i, (R i).length ≤ 8192) (hu : ∀ i j x, x ∈ R i → x ∈ R j → i = j) (j k : Int) (hx : j < 0) :
    Calls Try.prog 36 #[LV n A m c, .int .i64 j, .int .i64 k] w fun e w' => e = .returned (.tuple #[LV n A m c, .bool false]) ∧ Below w.heap.size w w' := by
  have h0 : Cel ((w.alloc (.cells #[.int .i64 n, .slice A m c] 61)).alloc (.cells #[.int .i64 0, .slice none 0 0] 61)) w.heap.size 0 (.int .i64 n) := (((Cel.new w #[.int .i64 n, .slice A m c] 61 0 _ rfl).alloc (.cells #[.int .i64 0, .slice none 0 0] 61)))
  have h1 : Cel ((w.alloc (.cells #[.int .i64 n, .slice A m c] 61)).alloc (.cells #[.int .i64 0, .slice none 0 0] 61)) w.heap.size 1 (.slice A m c) := (((Cel.new w #[.int .i64 n, .slice A m c] 61 1 _ rfl).alloc (.cells #[.int .i64 0, .slice none 0 0] 61)))
  have h2 := (Cel.new (w.alloc (.cells #[.int .i64 n, .slice A m c] 61)) #[.int .i64 0, .slice none 0 0] 61 0 (.int .i64 0) rfl)
  have h3 := (Cel.new (w.alloc (.cells #[.int .i64 n, .slice A m c] 61)) #[.int .i64 0, .slice none 0 0] 61 1 (.slice none 0 0) rfl)
  rw [World.size_alloc] at h2 h3
  have hsz : (w.heap.size + 1) < ((w.alloc (.cells #[.int .i64 n, .slice A m c] 61)).alloc (.cells #[.int .i64 0, .slice none 0 0] 61)).heap.size := by simp
  have B0 := Lib.hid (((Below.refl w.heap.size w).alloc (Nat.le_refl _) (.cells #[.int .i64 n, .slice A m c] 61)).alloc (by simp) (.cells #[.int .i64 0, .slice none 0 0] 61))
  have HR := Lib.hid (hr.below B0.out)
  have HRw := Lib.hid hr
  have HU := Lib.hid hu
  have HLL := Lib.hid (rows_len (m := m) hl)
  have HL := Lib.hid hl
  have h0c := h0.1; have h1c := h1.1; have h2c := h2.1; have h2f := h2.2; have h3c := h3.1; have h3f := h3.2
  replace h0 := Lib.hid h0; replace h1 := Lib.hid h1; replace h2 := Lib.hid h2; replace h3 := Lib.hid h3
  clear hr hl hu
  go_enter Try.func36, Try.ntmps36
  go_wp2
  refine bodyPost_ret (v := .tuple #[LV n A m c, .bool false]) (by simp [results, Try.results36, go_sem, *]) rfl ⟨rfl, ?_⟩
  exact (((Below.refl w.heap.size w).alloc (Nat.le_refl _) _).alloc (by simp) _)

set_option maxRecDepth 100000 in
set_option maxHeartbeats 2000000 in
theorem push4_no1 {avd : Nat → Prop} {w : World} {A : Option Addr} {R : Nat → List Nat} {n m c : Nat} (hr : RowsAt avd w A (rowsOf m R)) (hlo : ∀ b, w.heap.size ≤ b → ¬ avd b) (hm : m ≤ 8192) (hn : n ≤ 8192) (hl : ∀ i, (R i).length ≤ 8192) (hu : ∀ i j x, x ∈ R i → x ∈ R j → i = j) (j k : Int) (hj : 0 ≤ j) (hx : (m : Int) ≤ j) :
    Calls Try.prog 36 #[LV n A m c, .int .i64 j, .int .i64 k] w fun e w' => e = .returned (.tuple #[LV n A m c, .bool false]) ∧ Below w.heap.size w w' := by
  have h0 : Cel ((w.alloc (.cells #[.int .i64 n, .slice A m c] 61)).alloc (.cells #[.int .i64 0, .slice none 0 0] 61)) w.heap.size 0 (.int .i64 n) := (((Cel.new w #[.int .i64 n, .slice A m c] 61 0 _ rfl).alloc (.cells #[.int .i64 0, .slice none 0 0] 61)))
  have h1 : Cel ((w.alloc (.cells #[.int .i64 n, .slice A m c] 61)).alloc (.cells #[.int .i64 0, .slice none 0 0] 61)) w.heap.size 1 (.slice A m c) := (((Cel.new w #[.int .i64 n, .slice A m c] 61 1 _ rfl).alloc (.cells #[.int .i64 0, .slice none 0 0] 61)))
  have h2 := (Cel.new (w.alloc (.cells #[.int .i64 n, .slice A m c] 61)) #[.int .i64 0, .slice none 0 0] 61 0 (.int .i64 0) rfl)
  have h3 := (Cel.new (w.alloc (.cells #[.int .i64 n, .slice A m c] 61)) #[.int .i64 0, .slice none 0 0] 61 1 (.slice none 0 0) rfl)
  rw [World.size_alloc] at h2 h3
  have hsz : (w.heap.size + 1) < ((w.alloc (.cells #[.int .i64 n, .slice A m c] 61)).alloc (.cells #[.int .i64 0, .slice none 0 0] 61)).heap.size := by simp
  have B0 := Lib.hid (((Below.refl w.heap.size w).alloc (Nat.le_refl _) (.cells #[.int .i64 n, .slice A m c] 61)).alloc (by simp) (.cells #[.int .i64 0, .slice none 0 0] 61))
  have HR := Lib.hid (hr.below B0.out)
  have HRw := Lib.hid hr
  have HU := Lib.hid hu
  have HLL := Lib.hid (rows_len (m := m) hl)
  have HL := Lib.hid hl
  have h0c := h0.1; have h1c := h1.1; have h2c := h2.1; have h2f := h2.2; have h3c := h3.1; have h3f := h3.2
  replace h0 := Lib.hid h0; replace h1 := Lib.hid h1; replace h2 := Lib.hid h2; replace h3 := Lib.hid h3
  clear hr hl hu
  go_enter Try.func36, Try.ntmps36
  go_wp2
  refine bodyPost_ret (v := .tuple #[LV n A m c, .bool false]) (by simp [results, Try.results36, go_sem, *]) rfl ⟨rfl, ?_⟩
  exact (((Below.refl w.heap.size w).alloc (Nat.le_refl _) _).alloc (by simp) _)

set_option maxRecDepth 100000 in
set_option maxHeartbeats 2000000 in
theorem push4_no2 {avd : Nat → Prop} {w : World} {A : Option Addr} {R : Nat → List Nat} {n m c : Nat} (hr : RowsAt avd w A (rowsOf m R)) (hlo : ∀ b, w.heap.size ≤ b → ¬ avd b) (hm : m ≤ 8192) (hn : n ≤ 8192) (hl : ∀ i, (R i).length ≤ 8192) (hu : ∀ i j x, x ∈ R i → x ∈ R j → i = j) (j k : Int) (hj : 0 ≤ j) (hj2 : j < m) (hx : k < 0) :
    Calls Try.prog 36 #[LV n A m c, .int .i64 j, .int .i64 k] w fun e w' => e = .returned (.tuple #[LV n A m c, .bool false]) ∧ Below w.heap.size w w' := by
  have h0 : Cel ((w.alloc (.cells #[.int .i64 n, .slice A m c] 61)).alloc (.cells #[.int .i64 0, .slice none 0 0] 61)) w.heap.size 0 (.int .i64 n) := (((Cel.new w #[.int .i64 n, .slice A m c] 61 0 _ rfl).alloc (.cells #[.int .i64 0, .slice none 0 0] 61)))
  have h1 : Cel ((w.alloc (.cells #[.int .i64 n, .slice A m c] 61)).alloc (.cells #[.int .i64 0, .slice none 0 0] 61)) w.heap.size 1 (.slice A m c) := (((Cel.new w #[.int .i64 n, .slice A m c] 61 1 _ rfl).alloc (.cells #[.int .i64 0, .slice none 0 0] 61)))
  have h2 := (Cel.new (w.alloc (.cells #[.int .i64 n, .slice A m c] 61)) #[.int .i64 0, .slice none 0 0] 61 0 (.int .i64 0) rfl)
  have h3 := (Cel.new (w.alloc (.cells #[.int .i64 n, .slice A m c] 61)) #[.int .i64 0, .slice none 0 0] 61 1 (.slice none 0 0) rfl)
  rw [World.size_alloc] at h2 h3
  have hsz : (w.heap.size + 1) < ((w.alloc (.cells #[.int .i64 n, .slice A m c] 61)).alloc (.cells #[.int .i64 0, .slice none 0 0] 61)).heap.size := by simp
  have B0 := Lib.hid (((Below.refl w.heap.size w).alloc (Nat.le_refl _) (.cells #[.int .i64 n, .slice A m c] 61)).alloc (by simp) (.cells #[.int .i64 0, .slice none 0 0] 61))
  have HR := Lib.hid (hr.below B0.out)
  have HRw := Lib.hid hr
  have HU := Lib.hid hu
  have HLL := Lib.hid (rows_len (m := m) hl)
  have HL := Lib.hid hl
  have h0c := h0.1; have h1c := h1.1; have h2c := h2.1; have h2f := h2.2; have h3c := h3.1; have h3f := h3.2
  replace h0 := Lib.hid h0; replace h1 := Lib.hid h1; replace h2 := Lib.hid h2; replace h3 := Lib.hid h3
  clear hr hl hu
  go_enter Try.func36, Try.ntmps36
  go_wp2
  refine bodyPost_ret (v := .tuple #[LV n A m c, .bool false]) (by simp [results, Try.results36, go_sem, *]) rfl ⟨rfl, ?_⟩
  exact (((Below.refl w.heap.size w).alloc (Nat.le_refl _) _).alloc (by simp) _)

set_option maxRecDepth 100000 in
set_option maxHeartbeats 2000000 in
theorem push4_no3 {avd : Nat → Prop} {w : World} {A : Option Addr} {R : Nat → List Nat} {n m c : Nat} (hr : RowsAt avd w A (rowsOf m R)) (hlo : ∀ b, w.heap.size ≤ b → ¬ avd b) (hm : m ≤ 8192) (hn : n ≤ 8192) (hl : ∀ i, (R i).length ≤ 8192) (hu : ∀ i j x, x ∈ R i → x ∈ R j → i = j) (j k : Int) (hj : 0 ≤ j) (hj2 : j < m) (hk : 0 ≤ k) (hx : (n : Int) ≤ k) :
    Calls Try.prog 36 #[LV n A m c, .int .i64 j, .int .i64 k] w fun e w' => e = .returned (.tuple #[LV n A m c, .bool false]) ∧ Below w.heap.size w w' := by
  have h0 : Cel ((w.alloc (.cells #[.int .i64 n, .slice A m c] 61)).alloc (.cells #[.int .i64 0, .slice none 0 0] 61)) w.heap.size 0 (.int .i64 n) := (((Cel.new w #[.int .i64 n, .slice A m c] 61 0 _ rfl).alloc (.cells #[.int .i64 0, .slice none 0 0] 61)))
  have h1 : Cel ((w.alloc (.cells #[.int .i64 n, .slice A m c] 61)).alloc (.cells #[.int .i64 0, .slice none 0 0] 61)) w.heap.size 1 (.slice A m c) := (((Cel.new w #[.int .i64 n, .slice A m c] 61 1 _ rfl).alloc (.cells #[.int .i64 0, .slice none 0 0] 61)))
  have h2 := (Cel.new (w.alloc (.cells #[.int .i64 n, .slice A m c] 61)) #[.int .i64 0, .slice none 0 0] 61 0 (.int .i64 0) rfl)
  have h3 := (Cel.new (w.alloc (.cells #[.int .i64 n, .slice A m c] 61)) #[.int .i64 0, .slice none 0 0] 61 1 (.slice none 0 0) rfl)
  rw [World.size_alloc] at h2 h3
  have hsz : (w.heap.size + 1) < ((w.alloc (.cells #[.int .i64 n, .slice A m c] 61)).alloc (.cells #[.int .i64 0, .slice none 0 0] 61)).heap.size := by simp
  have B0 := Lib.hid (((Below.refl w.heap.size w).alloc (Nat.le_refl _) (.cells #[.int .i64 n, .slice A m c] 61)).alloc (by simp) (.cells #[.int .i64 0, .slice none 0 0] 61))
  have HR := Lib.hid (hr.below B0.out)
  have HRw := Lib.hid hr
  have HU := Lib.hid hu
  have HLL := Lib.hid (rows_len (m := m) hl)
  have HL := Lib.hid hl
  have h0c := h0.1; have h1c := h1.1; have h2c := h2.1; have h2f := h2.2; have h3c := h3.1; have h3f := h3.2
  replace h0 := Lib.hid h0; replace h1 := Lib.hid h1; replace h2 := Lib.hid h2; replace h3 := Lib.hid h3
  clear hr hl hu
  go_enter Try.func36, Try.ntmps36
  go_wp2
  refine bodyPost_ret (v := .tuple #[LV n A m c, .bool false]) (by simp [results, Try.results36, go_sem, *]) rfl ⟨rfl, ?_⟩
  exact (((Below.refl w.heap.size w).alloc (Nat.le_refl _) _).alloc (by simp) _)

set_option maxRecDepth 100000 in
set_option maxHeartbeats 2000000 in
theorem push4_no4 {avd : Nat → Prop} {w : World} {A : Option Addr} {R : Nat → List Nat} {n m c : Nat} (hr : RowsAt avd w A (rowsOf m R)) (hlo : ∀ b, w.heap.size ≤ b → ¬ avd b) (hm : m ≤ 8192) (hn : n ≤ 8192) (hl : ∀ i, (R i).length ≤ 8192) (hu : ∀ i j x, x ∈ R i → x ∈ R j → i = j) (j k : Int) (hj : 0 ≤ j) (hj2 : j < m) (hk : 0 ≤ k) (hk2 : k < n) (ho : onB m R k = true) :
    Calls Try.prog 36 #[LV n A m c, .int .i64 j, .int .i64 k] w fun e w' => e = .returned (.tuple #[LV n A m c, .bool false]) ∧ Below w.heap.size w w' := by
  have h0 : Cel ((w.alloc (.cells #[.int .i64 n, .slice A m c] 61)).alloc (.cells #[.int .i64 0, .slice none 0 0] 61)) w.heap.size 0 (.int .i64 n) := (((Cel.new w #[.int .i64 n, .slice A m c] 61 0 _ rfl).alloc (.cells #[.int .i64 0, .slice none 0 0] 61)))
  have h1 : Cel ((w.alloc (.cells #[.int .i64 n, .slice A m c] 61)).alloc (.cells #[.int .i64 0, .slice none 0 0] 61)) w.heap.size 1 (.slice A m c) := (((Cel.new w #[.int .i64 n, .slice A m c] 61 1 _ rfl).alloc (.cells #[.int .i64 0, .slice none 0 0] 61)))
  have h2 := (Cel.new (w.alloc (.cells #[.int .i64 n, .slice A m c] 61)) #[.int .i64 0, .slice none 0 0] 61 0 (.int .i64 0) rfl)
  have h3 := (Cel.new (w.alloc (.cells #[.int .i64 n, .slice A m c] 61)) #[.int .i64 0, .slice none 0 0] 61 1 (.slice none 0 0) rfl)
  rw [World.size_alloc] at h2 h3
  have hsz : (w.heap.size + 1) < ((w.alloc (.cells #[.int .i64 n, .slice A m c] 61)).alloc (.cells #[.int .i64 0, .slice none 0 0] 61)).heap.size := by simp
  have B0 := Lib.hid (((Below.refl w.heap.size w).alloc (Nat.le_refl _) (.cells #[.int .i64 n, .slice A m c] 61)).alloc (by simp) (.cells #[.int .i64 0, .slice none 0 0] 61))
  have HR := Lib.hid (hr.below B0.out)
  have HRw := Lib.hid hr
  have HU := Lib.hid hu
  have HLL := Lib.hid (rows_len (m := m) hl)
  have HL := Lib.hid hl
  have h0c := h0.1; have h1c := h1.1; have h2c := h2.1; have h2f := h2.2; have h3c := h3.1; have h3f := h3.2
  replace h0 := Lib.hid h0; replace h1 := Lib.hid h1; replace h2 := Lib.hid h2; replace h3 := Lib.hid h3
  clear hr hl hu
  go_enter Try.func36, Try.ntmps36
  go_wp2_with fail
  generalize (w.alloc (.cells #[.int .i64 n, .slice A m c] 61)).alloc (.cells #[.int .i64 0, .slice none 0 0] 61) = w0 at *
  obtain ⟨S, hS⟩ : ∃ S, S = w.heap.size := ⟨_, rfl⟩
  rw [← hS] at h0 h1 h2 h3 h0c h1c h2c h3c h2f h3f hsz
  rw [← hS]
  replace hS := Lib.hid hS
  refine (on4_c (n := n) HR.out (rowsOf_len m R).symm (by rw [rowsOf_len]; omega) HLL.out k).mono ?_
  rintro e w1 ⟨v, rfl, hv, Bw⟩
  replace hv := Lib.hid (on4_spec hv HU.out)
  have g0 := Lib.hid (h0.out.low Bw (by omega)); have g1 := Lib.hid (h1.out.low Bw (by omega)); have g2 := Lib.hid (h2.out.low Bw hsz); have g3 := Lib.hid (h3.out.low Bw hsz)
  have HR1 := Lib.hid (HR.out.below Bw)
  have B1 := Lib.hid (B0.out.trans (Bw.mono B0.out.size))
  have hsz1 := Nat.lt_of_lt_of_le hsz Bw.size
  clear h0c h1c h2c h2f h3c h3f h0 h1 h2 h3 HR B0 Bw hsz
  have h0c := g0.out.1; have h1c := g1.out.1; have h2c := g2.out.1; have h2f := g2.out.2; have h3c := g3.out.1; have h3f := g3.out.2
  have hv0 : 0 ≤ v := by
    rcases hv.out with ⟨_, e, _⟩ | ⟨e, _⟩
    · rw [e]; exact Int.natCast_nonneg _
    · rw [ho] at e; cases e
  go_wp2
  refine bodyPost_ret (v := .tuple #[LV n A m c, .bool false]) (by simp [results, Try.results36, go_sem, *]) rfl (And.intro rfl ?_)
  exact (B1.out.setCell (p := ⟨S + 1, 0, none⟩) (by have := hS.out; show _ ≤ S + 1; omega) _).setCell (p := ⟨S + 1, 1, none⟩) (by have := hS.out; show _ ≤ S + 1; omega) _

set_option maxRecDepth 100000 in
set_option maxHeartbeats 2000000 in
theorem pull4_no {avd : Nat → Prop} {w : World} {A : Option Addr} {R : Nat → List Nat} {n m c : Nat} (hr : RowsAt avd w A (rowsOf m R)) (hlo : ∀ b, w.heap.size ≤ b → ¬ avd b) (hm : m ≤ 8192) (hn : n ≤ 8192) (hl : ∀ i, (R i).length ≤ 8192) (hu : ∀ i j x, x ∈ R i → x ∈ R j → i = j) (k : Int) (ho : onB m R k = false) :
    Calls Try.prog 38 #[LV n A m c, .int .i64 k] w fun e w' => e = .returned (.tuple #[LV n A m c, .bool false]) ∧ Below w.heap.size w w' := by
  have h0 : Cel ((w.alloc (.cells #[.int .i64 n, .slice A m c] 61)).alloc (.cells #[.int .i64 0, .slice none 0 0] 61)) w.heap.size 0 (.int .i64 n) := (((Cel.new w #[.int .i64 n, .slice A m c] 61 0 _ rfl).alloc (.cells #[.int .i64 0, .slice none 0 0] 61)))
  have h1 : Cel ((w.alloc (.cells #[.int .i64 n, .slice A m c] 61)).alloc (.cells #[.int .i64 0, .slice none 0 0] 61)) w.heap.size 1 (.slice A m c) := (((Cel.new w #[.int .i64 n, .slice A m c] 61 1 _ rfl).alloc (.cells #[.int .i64 0, .slice none 0 0] 61)))
  have h2 := (Cel.new (w.alloc (.cells #[.int .i64 n, .slice A m c] 61)) #[.int .i64 0, .slice none 0 0] 61 0 (.int .i64 0) rfl)
  have h3 := (Cel.new (w.alloc (.cells #[.int .i64 n, .slice A m c] 61)) #[.int .i64 0, .slice none 0 0] 61 1 (.slice none 0 0) rfl)
  rw [World.size_alloc] at h2 h3
  have hsz : (w.heap.size + 1) < ((w.alloc (.cells #[.int .i64 n, .slice A m c] 61)).alloc (.cells #[.int .i64 0, .slice none 0 0] 61)).heap.size := by simp
  have B0 := Lib.hid (((Below.refl w.heap.size w).alloc (Nat.le_refl _) (.cells #[.int .i64 n, .slice A m c] 61)).alloc (by simp) (.cells #[.int .i64 0, .slice none 0 0] 61))
  have HR := Lib.hid (hr.below B0.out)
  have HRw := Lib.hid hr
  have HU := Lib.hid hu
  have HLL := Lib.hid (rows_len (m := m) hl)
  have HL := Lib.hid hl
  have h0c := h0.1; have h1c := h1.1; have h2c := h2.1; have h2f := h2.2; have h3c := h3.1; have h3f := h3.2
  replace h0 := Lib.hid h0; replace h1 := Lib.hid h1; replace h2 := Lib.hid h2; replace h3 := Lib.hid h3
  clear hr hl hu
  go_enter Try.func38, Try.ntmps38
  go_wp2_with fail
  generalize (w.alloc (.cells #[.int .i64 n, .slice A m c] 61)).alloc (.cells #[.int .i64 0, .slice none 0 0] 61) = w0 at *
  obtain ⟨S, hS⟩ : ∃ S, S = w.heap.size := ⟨_, rfl⟩
  rw [← hS] at h0 h1 h2 h3 h0c h1c h2c h3c h2f h3f hsz
  rw [← hS]
  replace hS := Lib.hid hS
  refine (on4_c (n := n) HR.out (rowsOf_len m R).symm (by rw [rowsOf_len]; omega) HLL.out k).mono ?_
  rintro e w1 ⟨v, rfl, hv, Bw⟩
  replace hv := Lib.hid (on4_spec hv HU.out)
  have g0 := Lib.hid (h0.out.low Bw (by omega)); have g1 := Lib.hid (h1.out.low Bw (by omega)); have g2 := Lib.hid (h2.out.low Bw hsz); have g3 := Lib.hid (h3.out.low Bw hsz)
  have HR1 := Lib.hid (HR.out.below Bw)
  have B1 := Lib.hid (B0.out.trans (Bw.mono B0.out.size))
  have hsz1 := Nat.lt_of_lt_of_le hsz Bw.size
  clear h0c h1c h2c h2f h3c h3f h0 h1 h2 h3 HR B0 Bw hsz
  have h0c := g0.out.1; have h1c := g1.out.1; have h2c := g2.out.1; have h2f := g2.out.2; have h3c := g3.out.1; have h3f := g3.out.2
  obtain rfl : v = -1 := by
    rcases hv.out with ⟨e, _⟩ | ⟨_, e⟩
    · rw [ho] at e; cases e
    · exact e
  go_wp2
  refine bodyPost_ret (v := .tuple #[LV n A m c, .bool false]) (by simp [results, Try.results38, go_sem, *]) rfl (And.intro rfl ?_)
  exact (B1.out.setCell (p := ⟨S + 1, 0, none⟩) (by have := hS.out; show _ ≤ S + 1; omega) _).setCell (p := ⟨S + 1, 1, none⟩) (by have := hS.out; show _ ≤ S + 1; omega) _

set_option maxRecDepth 100000 in
set_option maxHeartbeats 2000000 in
theorem push4_yes {avd : Nat → Prop} {w : World} {A : Option Addr} {R : Nat → List Nat} {n m c : Nat} (hr : RowsAt avd w A (rowsOf m R)) (hlo : ∀ b, w.heap.size ≤ b → ¬ avd b) (hm : m ≤ 8192) (hn : n ≤ 8192) (hl : ∀ i, (R i).length ≤ 8192) (hu : ∀ i j x, x ∈ R i → x ∈ R j → i = j) (j k : Nat) (hj : j < m) (hk : k < n) (ho : onB m R k = false) :
    Calls Try.prog 36 #[LV n A m c, .int .i64 j, .int .i64 k] w fun e w' => ∃ A' c', e = .returned (.tuple #[LV n A' m c', .bool true]) ∧ RowsAt avd w' A' (rowsOf m (updR R j (R j ++ [k]))) ∧ Below w.heap.size w w' := by
  have h0 : Cel ((w.alloc (.cells #[.int .i64 n, .slice A m c] 61)).alloc (.cells #[.int .i64 0, .slice none 0 0] 61)) w.heap.size 0 (.int .i64 n) := (((Cel.new w #[.int .i64 n, .slice A m c] 61 0 _ rfl).alloc (.cells #[.int .i64 0, .slice none 0 0] 61)))
  have h1 : Cel ((w.alloc (.cells #[.int .i64 n, .slice A m c] 61)).alloc (.cells #[.int .i64 0, .slice none 0 0] 61)) w.heap.size 1 (.slice A m c) := (((Cel.new w #[.int .i64 n, .slice A m c] 61 1 _ rfl).alloc (.cells #[.int .i64 0, .slice none 0 0] 61)))
  have h2 := (Cel.new (w.alloc (.cells #[.int .i64 n, .slice A m c] 61)) #[.int .i64 0, .slice none 0 0] 61 0 (.int .i64 0) rfl)
  have h3 := (Cel.new (w.alloc (.cells #[.int .i64 n, .slice A m c] 61)) #[.int .i64 0, .slice none 0 0] 61 1 (.slice none 0 0) rfl)
  rw [World.size_alloc] at h2 h3
  have hsz : (w.heap.size + 1) < ((w.alloc (.cells #[.int .i64 n, .slice A m c] 61)).alloc (.cells #[.int .i64 0, .slice none 0 0] 61)).heap.size := by simp
  have B0 := Lib.hid (((Below.refl w.heap.size w).alloc (Nat.le_refl _) (.cells #[.int .i64 n, .slice A m c] 61)).alloc (by simp) (.cells #[.int .i64 0, .slice none 0 0] 61))
  have HR := Lib.hid (hr.below B0.out)
  have HRw := Lib.hid hr
  have HU := Lib.hid hu
  have HLL := Lib.hid (rows_len (m := m) hl)
  have HL := Lib.hid hl
  have h0c := h0.1; have h1c := h1.1; have h2c := h2.1; have h2f := h2.2; have h3c := h3.1; have h3f := h3.2
  replace h0 := Lib.hid h0; replace h1 := Lib.hid h1; replace h2 := Lib.hid h2; replace h3 := Lib.hid h3
  clear hr hl hu
  go_enter Try.func36, Try.ntmps36
  go_wp2_with fail
  generalize (w.alloc (.cells #[.int .i64 n, .slice A m c] 61)).alloc (.cells #[.int .i64 0, .slice none 0 0] 61) = w0 at *
  obtain ⟨S, hS⟩ : ∃ S, S = w.heap.size := ⟨_, rfl⟩
  rw [← hS] at h0 h1 h2 h3 h0c h1c h2c h3c h2f h3f hsz
  rw [← hS]
  replace hS := Lib.hid hS
  refine (on4_c (n := n) HR.out (rowsOf_len m R).symm (by rw [rowsOf_len]; omega) HLL.out k).mono ?_
  rintro e w1 ⟨v, rfl, hv, Bw⟩
  replace hv := Lib.hid (on4_spec hv HU.out)
  have g0 := Lib.hid (h0.out.low Bw (by omega)); have g1 := Lib.hid (h1.out.low Bw (by omega)); have g2 := Lib.hid (h2.out.low Bw hsz); have g3 := Lib.hid (h3.out.low Bw hsz)
  have HR1 := Lib.hid (HR.out.below Bw)
  have B1 := Lib.hid (B0.out.trans (Bw.mono B0.out.size))
  have hsz1 := Nat.lt_of_lt_of_le hsz Bw.size
  clear h0c h1c h2c h2f h3c h3f h0 h1 h2 h3 HR B0 Bw hsz
  have h0c := g0.out.1; have h1c := g1.out.1; have h2c := g2.out.1; have h2f := g2.out.2; have h3c := g3.out.1; have h3f := g3.out.2
  obtain rfl : v = -1 := by
    rcases hv.out with ⟨e, _⟩ | ⟨_, e⟩
    · rw [ho] at e; cases e
    · exact e
  clear hv
  have Ba := Below.alloc (Below.refl w1.heap.size w1) (Nat.le_refl _) (.cells #[] 40)
  have Bw := Lib.hid (B1.out.trans (Ba.mono B1.out.size))
  have O0 := World.ownsRow_lit (base := w.heap.size) (e := 40) (size := 1) w1 #[] 0 B1.out.size (by simp) rfl
  replace O0 := Lib.hid O0
  have h1d := (g1.out.low Ba (by omega)).1
  replace Ba := Lib.hid Ba
  have hm0 : 0 < m := by omega
  go_wp2_with (first | (at_builtin; refine append_copy rfl rfl Try.underlying59 rfl O0.out rfl (rowsOf_len m R).symm HRw.out hlo Bw.out hm0 (by omega) (show w.heap.size ≤ S + 1 by rw [hS.out]; omega) ?_))
  intro g cap w2 X2 P2 hg hcap Pg hgg
  replace P2 : Below w1.heap.size (w1.alloc (.cells #[] 40)) w2 := ⟨Pg.1, Pg.2, Pg.3, Pg.4, fun z hz => Pg.5 z (by simp; omega) (fun e => by injection e with e; have e : z = w1.heap.size := e; omega)⟩
  have hge : w1.heap.size ≤ g := by
    rcases hgg with e | e
    · injection e with e; have e : w1.heap.size = g := e; omega
    · rw [e]; simp
  have b2 := Ba.out.trans P2
  have B2 := Lib.hid (B1.out.trans (b2.mono B1.out.size))
  have q0 := Lib.hid (g0.out.low b2 (by omega)); have q1 := Lib.hid (g1.out.low b2 (by omega)); have q2 := Lib.hid (g2.out.low b2 hsz1); have q3 := Lib.hid (g3.out.low b2 hsz1)
  have hgS : S + 1 < g := by omega
  clear Pg hgg hge Bw HRw
  have hsz2 : S + 1 < w2.heap.size := Nat.lt_of_lt_of_le hsz1 b2.size
  clear h0c h1c h1d h2c h2f h3c h3f g0 g1 g2 g3 B1 Ba O0 P2 HR1 b2
  replace X2 := Lib.hid X2
  clear hg hsz1
  -- the row's copy, one longer
  obtain ⟨Bj, cj, hcj, hrj, _⟩ := X2.out.2.2 j (by rw [rowsOf_len]; exact hj)
  rw [rowsOf_get] at hcj hrj
  have hlj : (natsI (R j)).length ≤ 100000000 := by have := HL.out j; simp [natsI]; omega
  replace hlj := Lib.hid hlj
  have Bl := Below.alloc (Below.refl w2.heap.size w2) (Nat.le_refl _) (.cells #[] 3)
  have hcj1 := (hcj.low Bl X2.out.1).1
  have HRJ := Lib.hid (hrj.below Bl)
  have E0 := Lib.hid (OwnI.lit w2 w2.heap.size (Nat.le_refl _) [] #[] rfl (by simp))
  have hle := Bl.size
  replace Bl := Lib.hid Bl
  clear hrj hcj
  go_wp2_with (first | (at_builtin; refine append_row rfl rfl Try.underlying40 rfl E0.out rfl HRJ.out rfl (by simp) hlj.out hle ?_))
  intro v' w3 G3 P3 _ _
  have hk1 : (k : Int) = (k : Int) := rfl
  clear hk1
  have b3 := Bl.out.trans P3
  have X3 := X2.out.fr b3
  have B3 := Lib.hid (B2.out.trans (b3.mono B2.out.size))
  have q0' := Lib.hid (q0.out.low b3 (by omega)); have q1' := Lib.hid (q1.out.low b3 (by omega)); have q2' := Lib.hid (q2.out.low b3 hsz2); have q3' := Lib.hid (q3.out.low b3 hsz2)
  have hsz3 : S + 1 < w3.heap.size := Nat.lt_of_lt_of_le hsz2 b3.size
  have hw23 := Lib.hid b3.size
  replace X3 := Lib.hid X3
  replace G3 := Lib.hid (show OwnI w3 w2.heap.size v' (natsI (R j)) from G3)
  clear hcj1 HRJ E0 hle Bl P3 q0 q1 q2 q3 B2
  have hle3 : w2.heap.size ≤ (w3.alloc (.cells #[.int .i64 k] 3)).heap.size := by have := hw23.out; simp; omega
  go_wp2_with (first | (at_builtin; refine append_int rfl rfl Try.underlying40 rfl (G3.out.alloc _) rfl (cell_new1 _ _ _) hlj.out hle3 ?_))
  intro v4 w4 G4 P4 _ _
  have b4 : Below w2.heap.size w3 w4 := (Below.alloc (Below.refl w2.heap.size w3) hw23.out _).trans P4
  have bb := b3.trans b4
  have X4 : OwnR avd w4 g (S + 1) (rowsOf m R) := by
    refine ⟨Nat.lt_of_lt_of_le X3.out.1 b4.size, X2.out.2.1, fun i hi => ?_⟩
    obtain ⟨B, c, e1, e2, e3⟩ := X2.out.2.2 i hi
    exact ⟨B, c, e1.low bb X2.out.1, e2.below bb, e3⟩
  have B4 := Lib.hid (B3.out.trans (b4.mono (Nat.le_trans (Nat.le_trans (by rw [← hS.out]; exact Nat.le_refl _) (by omega)) (Nat.le_of_lt hsz2))))
  have q0 := Lib.hid (q0'.out.low b4 (by omega)); have q1 := Lib.hid (q1'.out.low b4 (by omega)); have q2 := Lib.hid (q2'.out.low b4 hsz2); have q3 := Lib.hid (q3'.out.low b4 hsz2)
  have hgl := X2.out.1
  rw [natsI_snoc'] at G4
  obtain ⟨Av, cv, rfl⟩ := G4.slice
  have hrow := G4.row.1
  have hblk : ∀ b off, Av = some ⟨b, off, none⟩ → 0 < (natsI (R j ++ [k])).length → b ≠ g ∧ b ≠ S + 1 ∧ ¬ avd b := by
    rintro b off rfl _
    have := (G4.lt b rfl).1
    have := hS.out
    exact ⟨by omega, by omega, hlo b (by omega)⟩
  have hjl : j < (rowsOf m R).length := by rw [rowsOf_len]; exact hj
  have X5 := (X4.set hrow hjl rfl hblk (n := (natsI (R j ++ [k])).length) (c := cv))
  rw [rowsOf_set] at X5
  obtain ⟨Bx, cx, hcx, _⟩ := X4.2.2 j hjl
  have hcx1 := hcx.1; have hcx2 := hcx.2
  have X6 := (X5.setK (o := 0) (by omega) (.int .i64 n)).setK (o := 1) (by omega) (.slice (some ⟨g, 0, none⟩) m cap)
  have B6 := Lib.hid (((B4.out.setCell (p := ⟨g, j, none⟩) (by have := hS.out; show _ ≤ g; omega) (.slice Av (natsI (R j ++ [k])).length cv)).setCell (p := ⟨S + 1, 0, none⟩) (by have := hS.out; show _ ≤ S + 1; omega) (.int .i64 n)).setCell (p := ⟨S + 1, 1, none⟩) (by have := hS.out; show _ ≤ S + 1; omega) (.slice (some ⟨g, 0, none⟩) m cap))
  have h0c := q0.out.1; have h1c := q1.out.1; have h2c := q2.out.1; have h2f := q2.out.2; have h3c := q3.out.1; have h3f := q3.out.2
  replace X6 := Lib.hid X6
  clear X2 X3 X4 X5 G3 G4 P4 b3 b4 bb q0 q1 q2 q3 q0' q1' q2' q3' B3 B4 hrow hblk hcx hle3 hw23
  go_wp2
  refine bodyPost_ret (v := .tuple #[LV n (some ⟨g, 0, none⟩) m cap, .bool true]) (by simp [results, Try.results36, go_sem, *]) rfl ?_
  exact ⟨_, _, rfl, X6.out.rows, B6.out⟩
set_option maxRecDepth 100000 in
set_option maxHeartbeats 2000000 in
theorem pull4_yes {avd : Nat → Prop} {w : World} {A : Option Addr} {R : Nat → List Nat} {n m c : Nat} (hr : RowsAt avd w A (rowsOf m R)) (hlo : ∀ b, w.heap.size ≤ b → ¬ avd b) (hm : m ≤ 8192) (hn : n ≤ 8192) (hl : ∀ i, (R i).length ≤ 8192) (hu : ∀ i j x, x ∈ R i → x ∈ R j → i = j) (k : Nat) (hnd : ∀ i, (R i).Nodup) (ho : onB m R k = true) :
    Calls Try.prog 38 #[LV n A m c, .int .i64 k] w fun e w' => ∃ A' c', e = .returned (.tuple #[LV n A' m c', .bool true]) ∧ RowsAt avd w' A' (rowsOf m (pullR m R k)) ∧ Below w.heap.size w w' := by
  have h0 : Cel ((w.alloc (.cells #[.int .i64 n, .slice A m c] 61)).alloc (.cells #[.int .i64 0, .slice none 0 0] 61)) w.heap.size 0 (.int .i64 n) := (((Cel.new w #[.int .i64 n, .slice A m c] 61 0 _ rfl).alloc (.cells #[.int .i64 0, .slice none 0 0] 61)))
  have h1 : Cel ((w.alloc (.cells #[.int .i64 n, .slice A m c] 61)).alloc (.cells #[.int .i64 0, .slice none 0 0] 61)) w.heap.size 1 (.slice A m c) := (((Cel.new w #[.int .i64 n, .slice A m c] 61 1 _ rfl).alloc (.cells #[.int .i64 0, .slice none 0 0] 61)))
  have h2 := (Cel.new (w.alloc (.cells #[.int .i64 n, .slice A m c] 61)) #[.int .i64 0, .slice none 0 0] 61 0 (.int .i64 0) rfl)
  have h3 := (Cel.new (w.alloc (.cells #[.int .i64 n, .slice A m c] 61)) #[.int .i64 0, .slice none 0 0] 61 1 (.slice none 0 0) rfl)
  rw [World.size_alloc] at h2 h3
  have hsz : (w.heap.size + 1) < ((w.alloc (.cells #[.int .i64 n, .slice A m c] 61)).alloc (.cells #[.int .i64 0, .slice none 0 0] 61)).heap.size := by simp
  have B0 := Lib.hid (((Below.refl w.heap.size w).alloc (Nat.le_refl _) (.cells #[.int .i64 n, .slice A m c] 61)).alloc (by simp) (.cells #[.int .i64 0, .slice none 0 0] 61))
  have HR := Lib.hid (hr.below B0.out)
  have HRw := Lib.hid hr
  have HU := Lib.hid hu
  have HLL := Lib.hid (rows_len (m := m) hl)
  have HL := Lib.hid hl
  have h0c := h0.1; have h1c := h1.1; have h2c := h2.1; have h2f := h2.2; have h3c := h3.1; have h3f := h3.2
  replace h0 := Lib.hid h0; replace h1 := Lib.hid h1; replace h2 := Lib.hid h2; replace h3 := Lib.hid h3
  clear hr hl hu
  go_enter Try.func38, Try.ntmps38
  go_wp2_with fail
  generalize (w.alloc (.cells #[.int .i64 n, .slice A m c] 61)).alloc (.cells #[.int .i64 0, .slice none 0 0] 61) = w0 at *
  obtain ⟨S, hS⟩ : ∃ S, S = w.heap.size := ⟨_, rfl⟩
  rw [← hS] at h0 h1 h2 h3 h0c h1c h2c h3c h2f h3f hsz
  rw [← hS]
  replace hS := Lib.hid hS
  refine (on4_c (n := n) HR.out (rowsOf_len m R).symm (by rw [rowsOf_len]; omega) HLL.out k).mono ?_
  rintro e w1 ⟨v, rfl, hv, Bw⟩
  replace hv := Lib.hid (on4_spec hv HU.out)
  have g0 := Lib.hid (h0.out.low Bw (by omega)); have g1 := Lib.hid (h1.out.low Bw (by omega)); have g2 := Lib.hid (h2.out.low Bw hsz); have g3 := Lib.hid (h3.out.low Bw hsz)
  have HR1 := Lib.hid (HR.out.below Bw)
  have B1 := Lib.hid (B0.out.trans (Bw.mono B0.out.size))
  have hsz1 := Nat.lt_of_lt_of_le hsz Bw.size
  clear h0c h1c h2c h2f h3c h3f h0 h1 h2 h3 HR B0 Bw hsz
  have h0c := g0.out.1; have h1c := g1.out.1; have h2c := g2.out.1; have h2f := g2.out.2; have h3c := g3.out.1; have h3f := g3.out.2
  obtain ⟨av, rfl, ha, hmem⟩ : ∃ av : Nat, v = av ∧ av < m ∧ k ∈ R av := by
    rcases hv.out with ⟨_, e1, e2, e3⟩ | ⟨e, _⟩
    · exact ⟨_, e1, e2, by simpa using e3⟩
    · rw [ho] at e; cases e
  have hR : pullR m R k = updR R av ((R av).filter (fun x => x != k)) := by
    funext i
    unfold pullR
    rw [if_pos ho, Int.toNat_natCast]
    by_cases hi : i = av
    · subst hi; rw [updR_same, List.Nodup.erase_eq_filter (hnd i)]
    · rw [updR_other hi]; exact List.erase_of_not_mem (fun hm => hi (HU.out _ _ _ hm hmem))
  have hR2 := Lib.hid hR
  have hnd2 := Lib.hid hnd
  clear hv hmem hnd hR
  have Ba := Below.alloc (Below.refl w1.heap.size w1) (Nat.le_refl _) (.cells #[] 40)
  have Bw := Lib.hid (B1.out.trans (Ba.mono B1.out.size))
  have O0 := World.ownsRow_lit (base := w.heap.size) (e := 40) (size := 1) w1 #[] 0 B1.out.size (by simp) rfl
  replace O0 := Lib.hid O0
  have h1d := (g1.out.low Ba (by omega)).1
  replace Ba := Lib.hid Ba
  have hm0 : 0 < m := by omega
  have hneg : ((av : Int) < 0) = False := by simp
  go_wp2_with (first | (at_builtin; refine append_copy rfl rfl Try.underlying59 rfl O0.out rfl (rowsOf_len m R).symm HRw.out hlo Bw.out hm0 (by omega) (show w.heap.size ≤ S + 1 by rw [hS.out]; omega) ?_))
  intro g cap w2 X2 P2 hg hcap Pg hgg
  replace P2 : Below w1.heap.size (w1.alloc (.cells #[] 40)) w2 := ⟨Pg.1, Pg.2, Pg.3, Pg.4, fun z hz => Pg.5 z (by simp; omega) (fun e => by injection e with e; have e : z = w1.heap.size := e; omega)⟩
  have hge : w1.heap.size ≤ g := by
    rcases hgg with e | e
    · injection e with e; have e : w1.heap.size = g := e; omega
    · rw [e]; simp
  have b2 := Ba.out.trans P2
  have B2 := Lib.hid (B1.out.trans (b2.mono B1.out.size))
  have q0 := Lib.hid (g0.out.low b2 (by omega)); have q1 := Lib.hid (g1.out.low b2 (by omega)); have q2 := Lib.hid (g2.out.low b2 hsz1); have q3 := Lib.hid (g3.out.low b2 hsz1)
  have hgS : S + 1 < g := by omega
  clear Pg hgg hge Bw HRw
  have hsz2 : S + 1 < w2.heap.size := Nat.lt_of_lt_of_le hsz1 b2.size
  clear h0c h1c h1d h2c h2f h3c h3f g0 g1 g2 g3 B1 Ba O0 P2 HR1 b2
  clear hg hsz1
  obtain ⟨Bj, cj, hcj, hrj, hrd⟩ := X2.2.2 av (by rw [rowsOf_len]; exact ha)
  replace hrd := Lib.hid hrd
  replace X2 := Lib.hid X2
  rw [rowsOf_get] at hcj hrj
  have hlj : (natsI (R av)).length ≤ 8192 := by have := HL.out av; simp [natsI]; omega
  have E0 := Lib.hid (OwnI.lit w2 w2.heap.size (Nat.le_refl _) [] #[] rfl (by simp))
  have Bl := Lib.hid (Below.alloc (Below.refl w2.heap.size w2) (Nat.le_refl _) (.cells #[] 3))
  replace hcj := Lib.hid hcj; replace hrj := Lib.hid hrj
  go_wp2_with fail
  generalize w2.alloc (.cells #[] 3) = w3 at *
  go_loopw [8, 9] (fun v jj wr => ∃ j : Nat, jj = .int .i64 j ∧ Hid (j ≤ (natsI (R av)).length) ∧ Hid (OwnI wr w2.heap.size v (natsI (((R av).take j).filter (fun x => x != k)))) ∧ Hid (Below w2.heap.size w2 wr)) (fun v jj _ => (natsI (R av)).length - (intOf jj).toNat)
  case atStart => exact ⟨0, rfl, Lib.hid (Nat.zero_le _), E0, Bl⟩
  case round =>
    clear E0 Bl
    obtain ⟨j, rfl, h1, V, Bl⟩ := hrel
    have hgl := X2.out.1
    have hcj1 := (hcj.out.low Bl.out hgl).1
    by_cases hlt : j < (natsI (R av)).length
    · obtain ⟨b, off, rfl, hc⟩ := RowAt.get (hrj.out.below Bl.out) hlt
      have hl2 : j < (R av).length := by simpa [natsI] using hlt
      have hz : (natsI (R av)).getD j 0 = ((R av)[j] : Nat) := by simp [natsI, hl2]
      have htk : ((R av).take (j + 1)).filter (fun x => x != k) = ((R av).take j).filter (fun x => x != k) ++ (if (R av)[j] != k then [(R av)[j]] else []) := by
        rw [take_snoc' hl2, List.filter_append]
        by_cases e : (R av)[j] != k <;> simp [e]
      rw [hz] at hc
      have hvl : (natsI (((R av).take j).filter (fun x => x != k))).length ≤ 100000000 := by
        rw [natsI, List.length_map]
        have a1 := List.length_filter_le (fun x => x != k) ((R av).take j)
        have a2 : ((R av).take j).length ≤ (R av).length := by rw [List.length_take]; omega
        have a3 := HL.out av
        omega
      replace htk := Lib.hid htk; replace hvl := Lib.hid hvl
      clear hz
      generalize (R av)[j] = z at *
      clear hl2
      by_cases he : z = k
      · have e1 : (((z : Nat) : Int) != (k : Int)) = false := by simp [he]
        have hfe : ((R av).take (j + 1)).filter (fun x => x != k) = ((R av).take j).filter (fun x => x != k) := by rw [htk.out, he]; simp
        rw [← hfe] at V
        replace he := Lib.hid he
        clear hfe htk
        go_wp2
        go_roundw
        case rel => exact ⟨j + 1, by go_num, Lib.hid (by omega), V, Bl⟩
        case measure => simp [intOf]; omega
      · have e1 : (((z : Nat) : Int) != (k : Int)) = true := by simp; omega
        have hfe : ((R av).take (j + 1)).filter (fun x => x != k) = ((R av).take j).filter (fun x => x != k) ++ [z] := by rw [htk.out]; simp [he]
        replace he := Lib.hid he
        replace hfe := Lib.hid hfe
        clear htk
        have hle3 : w2.heap.size ≤ (wr.alloc (.cells #[.int .i64 z] 3)).heap.size := by have := Bl.out.size; simp; omega
        go_wp2_with (first | (at_builtin; refine append_int rfl rfl Try.underlying40 rfl (V.out.alloc _) rfl (cell_new1 _ _ _) hvl.out hle3 ?_))
        intro v4 w4 G4 P4 _ _
        have b4 := Lib.hid (Bl.out.trans ((Below.alloc (Below.refl w2.heap.size wr) Bl.out.size _).trans P4))
        rw [natsI_snoc', ← hfe.out] at G4
        replace G4 := Lib.hid G4
        clear V Bl P4 hle3 hcj1 hc hfe
        go_wp2
        go_roundw
        case rel => exact ⟨j + 1, by go_num, Lib.hid (by omega), G4, b4⟩
        case measure => simp [intOf]; omega
    · have hj : j = (R av).length := by have := h1.out; rw [natsI, List.length_map] at this hlt; omega
      have G4 := V.out
      rw [hj, List.take_length] at G4
      have bb := Bl.out
      have X4 : OwnR avd wr g (S + 1) (rowsOf m R) := by
        refine ⟨Nat.lt_of_lt_of_le hgl bb.size, X2.out.2.1, fun i hi => ?_⟩
        obtain ⟨B, c, e1, e2, e3⟩ := X2.out.2.2 i hi
        exact ⟨B, c, e1.low bb X2.out.1, e2.below bb, e3⟩
      have B4 := Lib.hid (B2.out.trans (bb.mono (Nat.le_trans (Nat.le_trans (by rw [← hS.out]; exact Nat.le_refl _) (by omega)) (Nat.le_of_lt hsz2))))
      have t0 := Lib.hid (q0.out.low bb (by omega)); have t1 := Lib.hid (q1.out.low bb (by omega)); have t2 := Lib.hid (q2.out.low bb hsz2); have t3 := Lib.hid (q3.out.low bb hsz2)
      obtain ⟨Av, cv, hvv⟩ := G4.slice
      subst hvv
      have hrow := G4.row.1
      have hblk : ∀ b off, Av = some ⟨b, off, none⟩ → 0 < (natsI ((R av).filter (fun x => x != k))).length → b ≠ g ∧ b ≠ S + 1 ∧ ¬ avd b := by
        rintro b off rfl _
        have := (G4.lt b rfl).1
        have := hS.out
        exact ⟨by omega, by omega, hlo b (by omega)⟩
      have hjl : av < (rowsOf m R).length := by rw [rowsOf_len]; exact ha
      have X5 := (X4.set hrow hjl rfl hblk (n := (natsI ((R av).filter (fun x => x != k))).length) (c := cv))
      rw [rowsOf_set, ← hR2.out] at X5
      obtain ⟨Bx, cx, hcx, _⟩ := X4.2.2 av hjl
      have hcx1 := hcx.1; have hcx2 := hcx.2
      have X6 := (X5.setK (o := 0) (by omega) (.int .i64 n)).setK (o := 1) (by omega) (.slice (some ⟨g, 0, none⟩) m cap)
      have B6 := Lib.hid (((B4.out.setCell (p := ⟨g, av, none⟩) (by have := hS.out; show _ ≤ g; omega) (.slice Av (natsI ((R av).filter (fun x => x != k))).length cv)).setCell (p := ⟨S + 1, 0, none⟩) (by have := hS.out; show _ ≤ S + 1; omega) (.int .i64 n)).setCell (p := ⟨S + 1, 1, none⟩) (by have := hS.out; show _ ≤ S + 1; omega) (.slice (some ⟨g, 0, none⟩) m cap))
      have h0c := t0.out.1; have h1c := t1.out.1; have h2c := t2.out.1; have h2f := t2.out.2; have h3c := t3.out.1; have h3f := t3.out.2
      replace X6 := Lib.hid X6
      clear X2 X4 X5 G4 V Bl bb t0 t1 t2 t3 B4 hrow hblk hcx h1 hj
      go_wp2
      refine bodyPost_ret (v := .tuple #[LV n (some ⟨g, 0, none⟩) m cap, .bool true]) (by simp [results, Try.results38, go_sem, *]) rfl ?_
      exact ⟨_, _, rfl, X6.out.rows, B6.out⟩
end Go.Proofs.Ytdgcppglpmlgkaa
