/- Plans of slots, in plain numbers: where slots begin, whose a tick is, which slot is next. No condition. -/
import Derived.Test.YtnlbcgonegeofaaOwn
namespace Go.Proofs.Ytnlbcgonegeofaa
open Go.RowKit
set_option linter.unusedVariables false
set_option linter.unusedSimpArgs false

structure Sl where
  owner : Int
  len : Int
deriving DecidableEq, Inhabited
def Sl.n (s : Sl) : Nat := s.len.toNat

def pre (xs : List Sl) (k : Nat) : Nat := ((xs.take k).map Sl.n).sum
abbrev cyc (xs : List Sl) : Nat := pre xs xs.length

/-- Slots of which a cycle can be made. -/
structure Gd (xs : List Sl) : Prop where
  pos : 0 < xs.length
  small : xs.length ≤ 70
  len : ∀ i (h : i < xs.length), 1 ≤ xs[i].len ∧ xs[i].len ≤ 1000

theorem pre_zero (xs : List Sl) : pre xs 0 = 0 := by simp [pre]
theorem pre_succ {xs : List Sl} {i : Nat} (h : i < xs.length) : pre xs (i + 1) = pre xs i + xs[i].n := by
  unfold pre
  rw [List.take_add_one, List.getElem?_eq_getElem h, Option.toList_some, List.map_append, List.sum_append]
  simp
theorem Gd.n {xs : List Sl} (g : Gd xs) {i : Nat} (h : i < xs.length) : 1 ≤ xs[i].n ∧ xs[i].n ≤ 1000 ∧ (xs[i].n : Int) = xs[i].len := by
  have := g.len i h
  unfold Sl.n
  omega
theorem pre_lt {xs : List Sl} (g : Gd xs) {i : Nat} (h : i < xs.length) : pre xs i < pre xs (i + 1) := by
  rw [pre_succ h]; have := (g.n h).1; omega
theorem pre_mono {xs : List Sl} (g : Gd xs) {i j : Nat} (h : i ≤ j) (hj : j ≤ xs.length) : pre xs i ≤ pre xs j := by
  induction j with
  | zero => have : i = 0 := by omega
            subst this; exact Nat.le_refl _
  | succ j ih =>
    rcases Nat.lt_or_ge i (j + 1) with h1 | h1
    · exact Nat.le_trans (ih (by omega) (by omega)) (Nat.le_of_lt (pre_lt g (by omega)))
    · have : i = j + 1 := by omega
      subst this; exact Nat.le_refl _
theorem pre_mono_lt {xs : List Sl} (g : Gd xs) {i j : Nat} (h : i < j) (hj : j ≤ xs.length) : pre xs i < pre xs j :=
  Nat.lt_of_lt_of_le (pre_lt g (by omega)) (pre_mono g h hj)
theorem pre_bd {xs : List Sl} (g : Gd xs) {j : Nat} (hj : j ≤ xs.length) : pre xs j ≤ 1000 * j := by
  induction j with
  | zero => simp [pre_zero]
  | succ j ih => rw [pre_succ (by omega)]; have := (g.n (show j < xs.length by omega)).2.1; have := ih (by omega); omega
theorem cyc_pos {xs : List Sl} (g : Gd xs) : 0 < cyc xs := by
  have := pre_mono_lt g g.pos (Nat.le_refl _)
  unfold cyc
  omega
theorem cyc_bd {xs : List Sl} (g : Gd xs) : cyc xs ≤ 70000 := by
  have := pre_bd g (Nat.le_refl _)
  have := g.small
  unfold cyc
  omega
theorem pre_inj {xs : List Sl} (g : Gd xs) {i j : Nat} (hi : i ≤ xs.length) (hj : j ≤ xs.length) (h : pre xs i = pre xs j) : i = j := by
  rcases Nat.lt_trichotomy i j with h1 | h1 | h1
  · have := pre_mono_lt g h1 hj; omega
  · exact h1
  · have := pre_mono_lt g h1 hi; omega
theorem ix_uniq {xs : List Sl} (g : Gd xs) {i j a : Nat} (hi : i < xs.length) (hj : j < xs.length) (h1 : pre xs i ≤ a) (h2 : a < pre xs (i + 1)) (h3 : pre xs j ≤ a) (h4 : a < pre xs (j + 1)) : i = j := by
  rcases Nat.lt_trichotomy i j with h | h | h
  · have := pre_mono g (show i + 1 ≤ j by omega) (by omega); omega
  · exact h
  · have := pre_mono g (show j + 1 ≤ i by omega) (by omega); omega
theorem ix_ex {xs : List Sl} (g : Gd xs) {a : Nat} (h : a < cyc xs) : ∃ i, i < xs.length ∧ pre xs i ≤ a ∧ a < pre xs (i + 1) := by
  have key : ∀ k, k ≤ xs.length → a < pre xs k → ∃ i, i < k ∧ pre xs i ≤ a ∧ a < pre xs (i + 1) := by
    intro k
    induction k with
    | zero => intro _ h; rw [pre_zero] at h; omega
    | succ k ih =>
      intro hk h
      rcases Nat.lt_or_ge a (pre xs k) with h1 | h1
      · obtain ⟨i, h2, h3⟩ := ih (by omega) h1
        exact ⟨i, by omega, h3⟩
      · exact ⟨k, by omega, h1, h⟩
  exact key _ (Nat.le_refl _) h

/-- The slot in which a tick of the cycle lies. -/
noncomputable def ix (xs : List Sl) (a : Nat) : Nat := by
  classical exact if h : ∃ i, i < xs.length ∧ pre xs i ≤ a ∧ a < pre xs (i + 1) then Classical.choose h else 0
theorem ix_spec {xs : List Sl} (g : Gd xs) {a : Nat} (h : a < cyc xs) : ix xs a < xs.length ∧ pre xs (ix xs a) ≤ a ∧ a < pre xs (ix xs a + 1) := by
  have he := ix_ex g h
  unfold ix
  rw [dif_pos he]
  exact Classical.choose_spec he
theorem ix_eq {xs : List Sl} (g : Gd xs) {a i : Nat} (hi : i < xs.length) (h1 : pre xs i ≤ a) (h2 : a < pre xs (i + 1)) : ix xs a = i := by
  have ha : a < cyc xs := Nat.lt_of_lt_of_le h2 (pre_mono g hi (Nat.le_refl _))
  have h := ix_spec g ha
  exact ix_uniq g h.1 hi h.2.1 h.2.2 h1 h2

/-- Whose the tick is that ends at t; does a slot end there? -/
noncomputable def atO (xs : List Sl) (t : Nat) : Int := if t = 0 then 0 else (xs[ix xs ((t - 1) % cyc xs)]?.map Sl.owner).getD 0
noncomputable def atE (xs : List Sl) (t : Nat) : Bool := if t = 0 then false else decide ((t - 1) % cyc xs + 1 = pre xs (ix xs ((t - 1) % cyc xs) + 1))
theorem at_zero (xs : List Sl) : atO xs 0 = 0 ∧ atE xs 0 = false := ⟨rfl, rfl⟩
theorem at_of {xs : List Sl} (g : Gd xs) {t i : Nat} (ht : 0 < t) (hi : i < xs.length) (h1 : pre xs i ≤ (t - 1) % cyc xs) (h2 : (t - 1) % cyc xs < pre xs (i + 1)) : atO xs t = xs[i].owner ∧ atE xs t = decide ((t - 1) % cyc xs + 1 = pre xs (i + 1)) := by
  have := ix_eq g hi h1 h2
  unfold atO atE
  rw [if_neg (by omega), if_neg (by omega), this]
  simp [hi]
theorem at_add {xs : List Sl} {t : Nat} (ht : 0 < t) (c : Nat) : atO xs (t + c * cyc xs) = atO xs t ∧ atE xs (t + c * cyc xs) = atE xs t := by
  have e : (t + c * cyc xs - 1) % cyc xs = (t - 1) % cyc xs := by
    rw [show t + c * cyc xs - 1 = (t - 1) + c * cyc xs by omega, Nat.add_mul_mod_self_right]
  unfold atO atE
  rw [if_neg (by omega), if_neg (by omega), if_neg (by omega), if_neg (by omega), e]
  exact ⟨rfl, rfl⟩

/-! Sums over times -/
def sumF (f : Nat → Nat) : Nat → Nat
  | 0 => 0
  | n + 1 => sumF f n + f n
theorem sumF_add (f : Nat → Nat) (a b : Nat) : sumF f (a + b) = sumF f a + sumF (fun y => f (a + y)) b := by
  induction b with
  | zero => rfl
  | succ b ih => rw [← Nat.add_assoc, sumF, sumF, ih]; omega
theorem sumF_congr {f h : Nat → Nat} {n : Nat} (e : ∀ y, y < n → f y = h y) : sumF f n = sumF h n := by
  induction n with
  | zero => rfl
  | succ n ih => rw [sumF, sumF, ih (fun y hy => e y (by omega)), e n (by omega)]
theorem sumF_zero (n : Nat) : sumF (fun _ => 0) n = 0 := by
  induction n with
  | zero => rfl
  | succ n ih => rw [sumF, ih]
theorem sumF_const (c n : Nat) : sumF (fun _ => c) n = c * n := by
  induction n with
  | zero => rfl
  | succ n ih => rw [sumF, ih, Nat.mul_succ]
theorem sumF_first (w n : Nat) (h : 0 < n) : sumF (fun y => if y = 0 then w else 0) n = w := by
  obtain ⟨m, rfl⟩ : ∃ m, n = 1 + m := ⟨n - 1, by omega⟩
  have e : sumF (fun y => (fun z => if z = 0 then w else 0) (1 + y)) m = 0 := by
    exact (sumF_congr (h := fun _ => 0) fun y _ => if_neg (show ¬ 1 + y = 0 by omega)).trans (sumF_zero m)
  rw [sumF_add, e]
  simp [sumF]
theorem sumF_last (n : Nat) (h : 0 < n) : sumF (fun y => if y + 1 = n then 1 else 0) n = 1 := by
  obtain ⟨m, rfl⟩ : ∃ m, n = m + 1 := ⟨n - 1, by omega⟩
  have e : sumF (fun y => if y + 1 = m + 1 then 1 else 0) m = 0 := by
    exact (sumF_congr (h := fun _ => 0) fun y hy => if_neg (show ¬ y + 1 = m + 1 by omega)).trans (sumF_zero m)
  rw [sumF, e]
  simp
theorem sumF_mono (f : Nat → Nat) {a b : Nat} (h : a ≤ b) : sumF f a ≤ sumF f b := by
  obtain ⟨c, rfl⟩ : ∃ c, b = a + c := ⟨b - a, by omega⟩
  rw [sumF_add]; omega
theorem sumF_le {f h : Nat → Nat} (n : Nat) (e : ∀ y, f y ≤ h y) : sumF f n ≤ sumF h n := by
  induction n with
  | zero => exact Nat.le_refl _
  | succ n ih => rw [sumF, sumF]; have := e n; omega
/-- Of what comes again after c: any window of c sums up to the same. -/
theorem sumF_period {f : Nat → Nat} {c : Nat} (h : ∀ x, f (x + c) = f x) (x : Nat) : sumF f (x + c) = sumF f x + sumF f c := by
  induction x with
  | zero => simp [sumF]
  | succ x ih => rw [show x + 1 + c = (x + c) + 1 by omega, sumF, sumF, ih, h]; omega
theorem sumF_periods {f : Nat → Nat} {c : Nat} (h : ∀ x, f (x + c) = f x) (x k : Nat) : sumF f (x + k * c) = sumF f x + k * sumF f c := by
  induction k with
  | zero => simp
  | succ k ih => rw [Nat.succ_mul, ← Nat.add_assoc, sumF_period h, ih, Nat.succ_mul]; omega
/-- Slot by slot. -/
theorem sumF_slots {xs : List Sl} (g : Gd xs) {f : Nat → Nat} {G : Nat → Nat} (h0 : G 0 = 0) (hs : ∀ j (h : j < xs.length), G (j + 1) = G j + sumF (fun y => f (pre xs j + y)) xs[j].n) {k : Nat} (hk : k ≤ xs.length) : sumF f (pre xs k) = G k := by
  induction k with
  | zero => rw [pre_zero, h0]; rfl
  | succ k ih => rw [pre_succ (by omega), sumF_add, ih (by omega), hs k (by omega)]

/-! Starts of a tenant's slots -/
def Own (xs : List Sl) (who : Int) (i : Nat) : Prop := ∃ h : i < xs.length, xs[i].owner = who
def St (xs : List Sl) (who : Int) (x : Nat) : Prop := ∃ i, Own xs who i ∧ x % cyc xs = pre xs i
noncomputable def st1 (xs : List Sl) (who : Int) (x : Nat) : Nat := by classical exact if St xs who x then 1 else 0
/-- How many slots of a tenant begin ahead of n. -/
noncomputable def cnt (xs : List Sl) (who : Int) (n : Nat) : Nat := sumF (st1 xs who) n
def mineN (xs : List Sl) (who : Int) : Nat := (xs.filter fun s => s.owner == who).length
theorem st1_yes {xs : List Sl} {who : Int} {x : Nat} (h : St xs who x) : st1 xs who x = 1 := by unfold st1; rw [if_pos h]
theorem st1_no {xs : List Sl} {who : Int} {x : Nat} (h : ¬ St xs who x) : st1 xs who x = 0 := by unfold st1; rw [if_neg h]
theorem st_period {xs : List Sl} {who : Int} {x : Nat} (c : Nat) : St xs who (x + c * cyc xs) ↔ St xs who x := by
  unfold St; rw [Nat.add_mul_mod_self_right]
theorem st1_period {xs : List Sl} {who : Int} (x : Nat) : st1 xs who (x + cyc xs) = st1 xs who x := by
  have := st_period (xs := xs) (who := who) (x := x) 1
  rw [Nat.one_mul] at this
  unfold st1
  by_cases h : St xs who x
  · rw [if_pos h, if_pos (this.2 h)]
  · rw [if_neg h, if_neg (fun h2 => h (this.1 h2))]
theorem st_at {xs : List Sl} (g : Gd xs) {who : Int} {j y : Nat} (hj : j < xs.length) (hy : y < xs[j].n) : St xs who (pre xs j + y) ↔ y = 0 ∧ xs[j].owner = who := by
  have h2 : pre xs j + y < pre xs (j + 1) := by rw [pre_succ hj]; omega
  have h3 : pre xs j + y < cyc xs := Nat.lt_of_lt_of_le h2 (pre_mono g hj (Nat.le_refl _))
  unfold St
  rw [Nat.mod_eq_of_lt h3]
  constructor
  · rintro ⟨i, ⟨hi, ho⟩, e⟩
    have : i = j := by
      refine ix_uniq g hi hj (a := pre xs j + y) (by omega) ?_ (by omega) h2
      have := pre_lt g hi
      omega
    subst this
    exact ⟨by omega, ho⟩
  · rintro ⟨rfl, ho⟩
    exact ⟨j, ⟨hj, ho⟩, by omega⟩
theorem mineN_take {xs : List Sl} (who : Int) {j : Nat} (hj : j < xs.length) : mineN (xs.take (j + 1)) who = mineN (xs.take j) who + (if xs[j].owner = who then 1 else 0) := by
  unfold mineN
  rw [List.take_add_one]
  simp only [hj, List.getElem?_eq_getElem, Option.toList_some, List.filter_append, List.length_append]
  by_cases h : xs[j].owner = who <;> simp [h]
theorem cnt_cyc {xs : List Sl} (g : Gd xs) (who : Int) : cnt xs who (cyc xs) = mineN xs who := by
  have := sumF_slots g (f := st1 xs who) (G := fun k => mineN (xs.take k) who) (by simp [mineN]) ?_ (Nat.le_refl _)
  · unfold cnt; rw [this, List.take_length]
  · intro j hj
    show mineN (xs.take (j + 1)) who = mineN (xs.take j) who + _
    rw [mineN_take who hj, sumF_congr (h := fun y => if y = 0 then (if xs[j].owner = who then 1 else 0) else 0), sumF_first _ _ (g.n hj).1]
    intro y hy
    have := st_at g (who := who) hj hy
    by_cases h0 : y = 0
    · rw [if_pos h0]
      by_cases h1 : xs[j].owner = who
      · rw [if_pos h1, st1_yes (this.2 ⟨h0, h1⟩)]
      · rw [if_neg h1, st1_no (fun h2 => h1 (this.1 h2).2)]
    · rw [if_neg h0, st1_no (fun h2 => h0 (this.1 h2).1)]
theorem cnt_cycles {xs : List Sl} (g : Gd xs) (who : Int) (x k : Nat) : cnt xs who (x + k * cyc xs) = cnt xs who x + k * mineN xs who := by
  have h := sumF_periods (f := st1 xs who) st1_period x k
  unfold cnt at *
  rw [h]
  have := cnt_cyc g who
  unfold cnt at this
  rw [this]
theorem cnt_succ {xs : List Sl} {who : Int} (x : Nat) : cnt xs who (x + 1) = cnt xs who x + st1 xs who x := rfl
theorem cnt_after {xs : List Sl} {who : Int} {x : Nat} (h : St xs who x) : cnt xs who (x + 1) = cnt xs who x + 1 := by rw [cnt_succ, st1_yes h]
theorem cnt_mono {xs : List Sl} {who : Int} {a b : Nat} (h : a ≤ b) : cnt xs who a ≤ cnt xs who b := sumF_mono _ h
/-- A start is told by how many are ahead of it. -/
theorem st_lt {xs : List Sl} {who : Int} {a b : Nat} (ha : St xs who a) (h : cnt xs who a < cnt xs who b) : a < b := by
  rcases Nat.lt_or_ge a b with h1 | h1
  · exact h1
  · have := cnt_mono (xs := xs) (who := who) h1; omega
theorem st_le {xs : List Sl} {who : Int} {a b : Nat} (ha : St xs who a) (h : cnt xs who b ≤ cnt xs who a) : b ≤ a := by
  rcases Nat.lt_or_ge a b with h1 | h1
  · have := cnt_mono (xs := xs) (who := who) (show a + 1 ≤ b from h1)
    rw [cnt_after ha] at this; omega
  · exact h1
theorem st_uniq {xs : List Sl} {who : Int} {a b : Nat} (ha : St xs who a) (hb : St xs who b) (h : cnt xs who a = cnt xs who b) : a = b :=
  Nat.le_antisymm (st_le hb (by omega)) (st_le ha (by omega))

/-- When the slot ends that begins at x. -/
noncomputable def en (xs : List Sl) (x : Nat) : Nat := x + (xs[ix xs (x % cyc xs)]?.map Sl.n).getD 0
theorem en_of {xs : List Sl} (g : Gd xs) {x i : Nat} (hi : i < xs.length) (h : x % cyc xs = pre xs i) : en xs x = x + xs[i].n := by
  have := ix_eq g hi (a := x % cyc xs) (by omega) (by rw [h]; exact pre_lt g hi)
  unfold en
  rw [this]; simp [hi]
theorem en_bd {xs : List Sl} (g : Gd xs) {who : Int} {x : Nat} (h : St xs who x) : x < en xs x ∧ en xs x ≤ x + 1000 := by
  obtain ⟨i, ⟨hi, ho⟩, e⟩ := h
  rw [en_of g hi e]
  have := g.n hi
  omega
/-- Nothing of the tenant begins within its slot. -/
theorem en_le {xs : List Sl} (g : Gd xs) {who : Int} {x y : Nat} (h : St xs who x) (hy : St xs who y) (hxy : x < y) : en xs x ≤ y := by
  obtain ⟨i, ⟨hi, ho⟩, e⟩ := h
  rw [en_of g hi e]
  apply Classical.byContradiction
  intro hn
  have hc := cyc_pos g
  have hx : x = cyc xs * (x / cyc xs) + pre xs i := by rw [← e]; exact (Nat.div_add_mod _ _).symm
  have h2 := pre_succ hi
  have h3 : pre xs (i + 1) ≤ cyc xs := pre_mono g hi (Nat.le_refl _)
  have hz : y = (pre xs i + (y - x)) + (x / cyc xs) * cyc xs := by rw [Nat.mul_comm]; omega
  rw [hz, st_period, st_at g hi (by omega)] at hy
  omega
theorem en_period {xs : List Sl} (x c : Nat) : en xs (x + c * cyc xs) = en xs x + c * cyc xs := by
  unfold en; rw [Nat.add_mul_mod_self_right]; omega
/-- The ticks of a slot. -/
theorem at_slot {xs : List Sl} (g : Gd xs) {who : Int} {x n : Nat} (h : St xs who x) (h1 : x < n) (h2 : n ≤ en xs x) : atO xs n = who ∧ atE xs n = decide (n = en xs x) := by
  obtain ⟨i, ⟨hi, ho⟩, e⟩ := h
  rw [en_of g hi e] at h2 ⊢
  have hx : x = cyc xs * (x / cyc xs) + pre xs i := by rw [← e]; exact (Nat.div_add_mod _ _).symm
  have h4 := pre_succ hi
  have h3 : pre xs (i + 1) ≤ cyc xs := pre_mono g hi (Nat.le_refl _)
  have hz : (n - 1) % cyc xs = pre xs i + (n - 1 - x) := by
    rw [show n - 1 = (pre xs i + (n - 1 - x)) + (x / cyc xs) * cyc xs by rw [Nat.mul_comm]; omega, Nat.add_mul_mod_self_right, Nat.mod_eq_of_lt (by omega)]
    rw [Nat.mul_comm]; omega
  obtain ⟨h5, h6⟩ := at_of g (t := n) (by omega) hi (by omega) (by omega)
  rw [h5, h6]
  refine ⟨ho, ?_⟩
  congr 1
  apply propext
  omega
/-- A slot ends where one begins. -/
theorem at_begin {xs : List Sl} (g : Gd xs) {who : Int} {x : Nat} (h : St xs who x) (h0 : 0 < x) : atE xs x = true := by
  obtain ⟨i, ⟨hi, ho⟩, e⟩ := h
  have hc := cyc_pos g
  have hx : x = cyc xs * (x / cyc xs) + pre xs i := by rw [← e]; exact (Nat.div_add_mod _ _).symm
  have h3 : pre xs (i + 1) ≤ cyc xs := pre_mono g hi (Nat.le_refl _)
  have h4 := pre_lt g hi
  rcases Nat.eq_zero_or_pos i with hi0 | hi0
  · subst hi0
    rw [pre_zero] at hx e
    have hq : 0 < x / cyc xs := by
      rcases Nat.eq_zero_or_pos (x / cyc xs) with h | h
      · rw [h] at hx; omega
      · exact h
    have hz : (x - 1) % cyc xs = cyc xs - 1 := by
      obtain ⟨q, hq2⟩ : ∃ q, x / cyc xs = q + 1 := ⟨x / cyc xs - 1, by omega⟩
      rw [hq2, Nat.mul_succ] at hx
      rw [show x - 1 = (cyc xs - 1) + cyc xs * q by omega, Nat.add_mul_mod_self_left, Nat.mod_eq_of_lt (by omega)]
    have hl : xs.length - 1 + 1 = xs.length := by omega
    have h5 := pre_lt g (show xs.length - 1 < xs.length by omega)
    rw [hl] at h5
    have h6 : pre xs xs.length = cyc xs := rfl
    obtain ⟨_, h7⟩ := at_of g (t := x) (i := xs.length - 1) h0 (by omega) (by omega) (by rw [hl]; omega)
    rw [h7, hz, hl, decide_eq_true_eq]
    omega
  · obtain ⟨j, rfl⟩ : ∃ j, i = j + 1 := ⟨i - 1, by omega⟩
    have h5 := pre_lt g (show j < xs.length by omega)
    have hz : (x - 1) % cyc xs = pre xs (j + 1) - 1 := by
      rw [show x - 1 = (pre xs (j + 1) - 1) + (x / cyc xs) * cyc xs by rw [Nat.mul_comm]; omega, Nat.add_mul_mod_self_right, Nat.mod_eq_of_lt (by omega)]
    obtain ⟨_, h7⟩ := at_of g (t := x) (i := j) h0 (by omega) (by omega) (by omega)
    rw [h7, hz, decide_eq_true_eq]
    omega

/-! The next slot -/
/-- s is the first slot of the tenant from t on. -/
def IsNx (xs : List Sl) (who : Int) (t s : Nat) : Prop := St xs who s ∧ cnt xs who s = cnt xs who t
theorem isNx_of {xs : List Sl} {who : Int} {t s : Nat} (h : St xs who s) (hts : t ≤ s) (hf : ∀ y, t ≤ y → y < s → ¬ St xs who y) : IsNx xs who t s := by
  refine ⟨h, ?_⟩
  obtain ⟨d, rfl⟩ : ∃ d, s = t + d := ⟨s - t, by omega⟩
  unfold cnt
  have e : sumF (fun y => st1 xs who (t + y)) d = 0 := by
    rw [← sumF_zero d]
    exact sumF_congr fun y hy => st1_no (hf _ (Nat.le_add_right _ _) (by omega))
  rw [sumF_add, e]
  rfl
theorem IsNx.le {xs : List Sl} {who : Int} {t s : Nat} (h : IsNx xs who t s) : t ≤ s := st_le h.1 (by have := h.2; omega)
theorem IsNx.uniq {xs : List Sl} {who : Int} {t a b : Nat} (h : IsNx xs who t a) (k : IsNx xs who t b) : a = b := st_uniq h.1 k.1 (h.2.trans k.2.symm)
/-- In this cycle: j is the first one. -/
theorem nx_this {xs : List Sl} (g : Gd xs) {who : Int} {t j : Nat} (hj : Own xs who j) (hle : t % cyc xs ≤ pre xs j) (hf : ∀ i, i < j → Own xs who i → ¬ t % cyc xs ≤ pre xs i) :
    IsNx xs who t (t / cyc xs * cyc xs + pre xs j) := by
  obtain ⟨hj1, hj2⟩ := hj
  have hc := cyc_pos g
  have ht := Nat.div_add_mod t (cyc xs)
  rw [Nat.mul_comm] at ht
  have h1 : pre xs j < cyc xs := pre_mono_lt g hj1 (Nat.le_refl _)
  refine isNx_of ?_ (by omega) ?_
  · rw [Nat.add_comm, st_period]
    exact ⟨j, ⟨hj1, hj2⟩, Nat.mod_eq_of_lt h1⟩
  · rintro y hy1 hy2 hs
    have ey : y = (y - t / cyc xs * cyc xs) + t / cyc xs * cyc xs := by omega
    rw [ey, st_period] at hs
    obtain ⟨i, ho, e⟩ := hs
    rw [Nat.mod_eq_of_lt (by omega)] at e
    have hij : i < j := by
      rcases Nat.lt_or_ge i j with h | h
      · exact h
      · have := pre_mono g h (Nat.le_of_lt ho.1); omega
    exact hf i hij ho (by omega)
/-- In the next cycle. -/
theorem nx_next {xs : List Sl} (g : Gd xs) {who : Int} {t j : Nat} (hj : Own xs who j) (hf : ∀ i, i < j → ¬ Own xs who i) (hn : ∀ i, Own xs who i → ¬ t % cyc xs ≤ pre xs i) :
    IsNx xs who t (t / cyc xs * cyc xs + cyc xs + pre xs j) := by
  obtain ⟨hj1, hj2⟩ := hj
  have hc := cyc_pos g
  have ht := Nat.div_add_mod t (cyc xs)
  rw [Nat.mul_comm] at ht
  have hm := Nat.mod_lt t hc
  have h1 : pre xs j < cyc xs := pre_mono_lt g hj1 (Nat.le_refl _)
  refine isNx_of ?_ (by omega) ?_
  · rw [show t / cyc xs * cyc xs + cyc xs + pre xs j = pre xs j + (t / cyc xs + 1) * cyc xs by rw [Nat.add_mul]; omega, st_period]
    exact ⟨j, ⟨hj1, hj2⟩, Nat.mod_eq_of_lt h1⟩
  · rintro y hy1 hy2 hs
    rcases Nat.lt_or_ge y (t / cyc xs * cyc xs + cyc xs) with h | h
    · have ey : y = (y - t / cyc xs * cyc xs) + t / cyc xs * cyc xs := by omega
      rw [ey, st_period] at hs
      obtain ⟨i, ho, e⟩ := hs
      rw [Nat.mod_eq_of_lt (by omega)] at e
      exact hn i ho (by omega)
    · have ey : y = (y - (t / cyc xs * cyc xs + cyc xs)) + (t / cyc xs + 1) * cyc xs := by rw [Nat.add_mul]; omega
      rw [ey, st_period] at hs
      obtain ⟨i, ho, e⟩ := hs
      rw [Nat.mod_eq_of_lt (by omega)] at e
      have hij : i < j := by
        rcases Nat.lt_or_ge i j with h | h
        · exact h
        · have := pre_mono g h (Nat.le_of_lt ho.1); omega
      exact hf i hij ho
theorem first_ex {P : Nat → Prop} {n : Nat} (h : P n) : ∃ j, P j ∧ ∀ i, i < j → ¬ P i := by
  induction n using Nat.strongRecOn with
  | _ n ih =>
    by_cases hx : ∃ i, i < n ∧ P i
    · obtain ⟨i, h1, h2⟩ := hx
      exact ih i h1 h2
    · exact ⟨n, h, fun i hi hp => hx ⟨i, hi, hp⟩⟩
theorem nx_ex {xs : List Sl} (g : Gd xs) {who : Int} (h : ∃ i, Own xs who i) (t : Nat) : ∃ s, IsNx xs who t s := by
  by_cases h1 : ∃ i, Own xs who i ∧ t % cyc xs ≤ pre xs i
  · obtain ⟨i, hi⟩ := h1
    obtain ⟨j, hj, hf⟩ := first_ex (P := fun i => Own xs who i ∧ t % cyc xs ≤ pre xs i) hi
    exact ⟨_, nx_this g hj.1 hj.2 (fun i hi ho hle => hf i hi ⟨ho, hle⟩)⟩
  · obtain ⟨i, hi⟩ := h
    obtain ⟨j, hj, hf⟩ := first_ex (P := Own xs who) hi
    exact ⟨_, nx_next g hj hf (fun i ho hle => h1 ⟨i, ho, hle⟩)⟩
/-- The n-th start of all. -/
theorem start_ex {xs : List Sl} (g : Gd xs) {who : Int} (h : ∃ i, Own xs who i) (m : Nat) : ∃ s, St xs who s ∧ cnt xs who s = m := by
  induction m with
  | zero => obtain ⟨s, h1, h2⟩ := nx_ex g h 0; exact ⟨s, h1, h2⟩
  | succ m ih =>
    obtain ⟨s, h1, h2⟩ := ih
    obtain ⟨u, h3, h4⟩ := nx_ex g h (s + 1)
    exact ⟨u, h3, by rw [h4, cnt_after h1, h2]⟩
noncomputable def startOf (xs : List Sl) (who : Int) (m : Nat) : Nat := by
  classical exact if h : ∃ s, St xs who s ∧ cnt xs who s = m then Classical.choose h else 0
theorem start_spec {xs : List Sl} (g : Gd xs) {who : Int} (h : ∃ i, Own xs who i) (m : Nat) : St xs who (startOf xs who m) ∧ cnt xs who (startOf xs who m) = m := by
  have he := start_ex g h m
  unfold startOf
  rw [dif_pos he]
  exact Classical.choose_spec he
theorem start_eq {xs : List Sl} (g : Gd xs) {who : Int} {s : Nat} (h : St xs who s) : startOf xs who (cnt xs who s) = s := by
  have ho : ∃ i, Own xs who i := by obtain ⟨i, h1, _⟩ := h; exact ⟨i, h1⟩
  have := start_spec g ho (cnt xs who s)
  exact st_uniq this.1 h this.2

def U64 : Nat := 18446744073709551616
/-- What Next answers: the m-th start of all, if its slot ends in time. -/
noncomputable def nxV (xs : List Sl) (who : Int) (t : Nat) : Nat × Nat × Bool := by
  classical exact if (∃ i, Own xs who i) ∧ en xs (startOf xs who (cnt xs who t)) < U64 then (startOf xs who (cnt xs who t), en xs (startOf xs who (cnt xs who t)), true) else (0, 0, false)
theorem nxV_none {xs : List Sl} {who : Int} (h : ¬ ∃ i, Own xs who i) (t : Nat) : nxV xs who t = (0, 0, false) := by
  unfold nxV; rw [if_neg (fun h2 => h h2.1)]
theorem nxV_of {xs : List Sl} (g : Gd xs) {who : Int} {t s : Nat} (h : IsNx xs who t s) : nxV xs who t = if en xs s < U64 then (s, en xs s, true) else (0, 0, false) := by
  have ho : ∃ i, Own xs who i := by obtain ⟨i, h1, _⟩ := h.1; exact ⟨i, h1⟩
  have e : startOf xs who (cnt xs who t) = s := by rw [← h.2]; exact start_eq g h.1
  unfold nxV
  rw [e]
  by_cases h2 : en xs s < U64
  · rw [if_pos ⟨ho, h2⟩, if_pos h2]
  · rw [if_neg (fun h3 => h2 h3.2), if_neg h2]
noncomputable def kthV (xs : List Sl) (who : Int) (t : Nat) (k : Int) : Nat × Bool := by
  classical exact if 1 ≤ k ∧ (∃ i, Own xs who i) ∧ en xs (startOf xs who (cnt xs who t + (k.toNat - 1))) < U64 then (en xs (startOf xs who (cnt xs who t + (k.toNat - 1))), true) else (0, false)
end Go.Proofs.Ytnlbcgonegeofaa
